/- Disks in memory: the program's. -/
import Derived.Test.YtkdmljijgfejpaaDoorDiskMath
import Derived.Test.YtkdmljijgfejpaaDoorOwn
import Derived.Deep.MidRow
import Derived.Laws.CopyOwn
import Derived.Deep.RegionLaw
import Derived.Deep.DeepCutAuto
import Derived.Deep.RegionHeld3
namespace Go.Proofs.YtkdmljijgfejpaaDoor
set_option linter.unusedVariables false
set_option linter.unusedSimpArgs false
open Go.RowKit Dk

def bv (b : Bool) : Value := .bool b
/-- a staged block's cells -/
def wcells (x : Nat × List UInt8) : List Value := .int .i64 (x.1 : Int) :: x.2.map u8v
def grow (F : Nat → Prop) (w : World) : Nat → Prop := fun k => F k ∨ w.heap.size ≤ k
/-- what a disk has beside its own block -/
structure Parts (w : World) (F : Nat → Prop) (gk : Nat) (s v : Value) (d : D) : Prop where
  kept : ∃ cur : Array Value, w.heap[gk]? = some (.cells cur 90 (0, 0)) ∧ cur.toList = d.kept.map u8v
  fk : F gk
  st : OwnF 92 33 w F s d.st.length (d.st.flatMap wcells)
  plan : OwnO bv 4 w F v d.plan
def hdr (gk n : Nat) (s v : Value) (off : Bool) (z : Int) : Array Value := #[.slice (some ⟨gk, 0, none⟩) n n, s, v, .bool off, .int .i64 z]
/-- a disk that lies at block p, with all it has within F -/
def Disk (w : World) (F : Nat → Prop) (p : Nat) (d : D) : Prop :=
  ∃ gk s v z, w.heap[p]? = some (.cells (hdr gk d.n s v d.off z) 80 (0, 0)) ∧ F p ∧ Parts w F gk s v d ∧ z.toNat = d.left ∧ -1 ≤ z ∧ z ≤ 9223372036854775807 ∧ d.Ok
theorem apart {w : World} {a b : Nat} {C C' : Array Value} {E E' : TypeId} {fr fr' : Nat × Nat} (h : w.heap[a]? = some (.cells C E fr)) (h' : w.heap[b]? = some (.cells C' E' fr')) (hE : E ≠ E') : a ≠ b := by
  rintro rfl
  rw [h] at h'
  simp only [Option.some.injEq, Obj.cells.injEq] at h'
  exact hE h'.2.1
theorem OwnO.chgT {α : Type} {enc : α → Value} {E : TypeId} {w w' : World} {F G : Nat → Prop} {v : Value} {l : List α} (h : OwnO enc E w F v l) (c : Chg G w w') (hG : ∀ g cur, w.heap[g]? = some (.cells cur E (0, 0)) → F g → ¬ G g) : OwnO enc E w' F v l := by
  rcases h with h | ⟨g, o, cap, cur, h1, h2, hh, r⟩
  · exact .inl h
  · exact .inr ⟨g, o, cap, cur, h1, h2, by rw [c.block g (Array.getElem?_eq_some_iff.1 hh).1 (hG g cur hh h2)]; exact hh, r⟩
theorem Parts.mono {w : World} {F G : Nat → Prop} {gk : Nat} {s v : Value} {d : D} (h : Parts w F gk s v d) (hF : ∀ k, F k → G k) : Parts w G gk s v d :=
  ⟨h.kept, hF _ h.fk, h.st.mono hF, h.plan.mono hF⟩
theorem Disk.mono {w : World} {F G : Nat → Prop} {p : Nat} {d : D} (h : Disk w F p d) (hF : ∀ k, F k → G k) : Disk w G p d := by
  obtain ⟨gk, s, v, z, h1, h2, h3, r⟩ := h
  exact ⟨gk, s, v, z, h1, hF _ h2, h3.mono hF, r⟩
theorem Parts.chg {w w' : World} {F G : Nat → Prop} {gk : Nat} {s v : Value} {d : D} (h : Parts w F gk s v d) (c : Chg G w w') (hG : ∀ k, F k → ¬ G k) : Parts w' F gk s v d := by
  obtain ⟨cur, h1, h2⟩ := h.kept
  exact ⟨⟨cur, by rw [c.block gk (Array.getElem?_eq_some_iff.1 h1).1 (hG _ h.fk)]; exact h1, h2⟩, h.fk, h.st.chg c fun g _ _ hF => hG g hF, h.plan.chg c hG⟩
theorem Disk.chg {w w' : World} {F G : Nat → Prop} {p : Nat} {d : D} (h : Disk w F p d) (c : Chg G w w') (hG : ∀ k, F k → ¬ G k) : Disk w' F p d := by
  obtain ⟨gk, s, v, z, h1, h2, h3, r⟩ := h
  exact ⟨gk, s, v, z, by rw [c.block p (Array.getElem?_eq_some_iff.1 h1).1 (hG _ h2)]; exact h1, h2, h3.chg c hG, r⟩
theorem Disk.ext {w w' : World} {F : Nat → Prop} {p : Nat} {d : D} (h : Disk w F p d) (e : Ext w w') : Disk w' F p d := h.chg (G := fun _ => False) (Chg.of_ext e) fun _ _ => id
theorem Disk.bound {w : World} {F : Nat → Prop} {p : Nat} {d : D} (h : Disk w F p d) : Disk w (fun k => F k ∧ k < w.heap.size) p d := by
  obtain ⟨gk, s, v, z, h1, h2, h3, r⟩ := h
  obtain ⟨cur, k1, k2⟩ := h3.kept
  exact ⟨gk, s, v, z, h1, ⟨h2, (Array.getElem?_eq_some_iff.1 h1).1⟩, ⟨⟨cur, k1, k2⟩, ⟨h3.fk, (Array.getElem?_eq_some_iff.1 k1).1⟩, h3.st.lt, h3.plan.lt⟩, r⟩
/-- only the disk's own block has turned -/
theorem Parts.own {w w' : World} {F : Nat → Prop} {gk p : Nat} {s v : Value} {d : D} {C : Array Value} (h : Parts w F gk s v d) (hp : w.heap[p]? = some (.cells C 80 (0, 0))) (c : Chg (fun k => k = p) w w') : Parts w' F gk s v d := by
  obtain ⟨cur, h1, h2⟩ := h.kept
  exact ⟨⟨cur, by rw [c.block gk (Array.getElem?_eq_some_iff.1 h1).1 (apart h1 hp (by decide))]; exact h1, h2⟩, h.fk, h.st.chg c fun g _ hg _ => apart hg hp (by decide), h.plan.chgT c fun g _ hg _ => apart hg hp (by decide)⟩
theorem Parts.to {w : World} {F : Nat → Prop} {gk : Nat} {s v : Value} {d d' : D} (h : Parts w F gk s v d) (hk : d'.kept = d.kept) (hs : d'.st = d.st) (hp : d'.plan = d.plan) : Parts w F gk s v d' :=
  ⟨by rw [hk]; exact h.kept, h.fk, by rw [hs]; exact h.st, by rw [hp]; exact h.plan⟩
theorem Parts.planned {w : World} {F : Nat → Prop} {gk : Nat} {s v v' : Value} {d d' : D} (h : Parts w F gk s v d) {l : List Bool} (hp : OwnO bv 4 w F v' l) (hk : d'.kept = d.kept) (hs : d'.st = d.st) (hl : d'.plan = l) : Parts w F gk s v' d' :=
  ⟨by rw [hk]; exact h.kept, h.fk, by rw [hs]; exact h.st, by rw [hl]; exact hp⟩
/-- the disk's own cells -/
theorem hdr_cells {w : World} {p gk n : Nat} {s v : Value} {off : Bool} {z : Int} (h : w.heap[p]? = some (.cells (hdr gk n s v off z) 80 (0, 0))) :
    w.cell? ⟨p, 0, none⟩ = some (.slice (some ⟨gk, 0, none⟩) n n) ∧ w.cell? ⟨p, 1, none⟩ = some s ∧ w.cell? ⟨p, 2, none⟩ = some v ∧ w.cell? ⟨p, 3, none⟩ = some (.bool off) ∧ w.cell? ⟨p, 4, none⟩ = some (.int .i64 z) ∧ ∀ j, w.frozen? ⟨p, j, none⟩ = false :=
  ⟨by rw [cell_of_row _ _ _ _ _ _ h]; rfl, by rw [cell_of_row _ _ _ _ _ _ h]; rfl, by rw [cell_of_row _ _ _ _ _ _ h]; rfl, by rw [cell_of_row _ _ _ _ _ _ h]; rfl, by rw [cell_of_row _ _ _ _ _ _ h]; rfl, fun j => by simp [World.frozen?, h]⟩
theorem hdr_set1 {w : World} {p gk n : Nat} {s v u : Value} {off : Bool} {z : Int} (h : w.heap[p]? = some (.cells (hdr gk n s v off z) 80 (0, 0))) : (w.setCell ⟨p, 1, none⟩ u).heap[p]? = some (.cells (hdr gk n u v off z) 80 (0, 0)) := setCell_row w p 1 _ _ _ _ h
theorem hdr_set2 {w : World} {p gk n : Nat} {s v u : Value} {off : Bool} {z : Int} (h : w.heap[p]? = some (.cells (hdr gk n s v off z) 80 (0, 0))) : (w.setCell ⟨p, 2, none⟩ u).heap[p]? = some (.cells (hdr gk n s u off z) 80 (0, 0)) := setCell_row w p 2 _ _ _ _ h
theorem hdr_set3 {w : World} {p gk n : Nat} {s v : Value} {off b : Bool} {z : Int} (h : w.heap[p]? = some (.cells (hdr gk n s v off z) 80 (0, 0))) : (w.setCell ⟨p, 3, none⟩ (.bool b)).heap[p]? = some (.cells (hdr gk n s v b z) 80 (0, 0)) := setCell_row w p 3 _ _ _ _ h
theorem hdr_set4 {w : World} {p gk n : Nat} {s v : Value} {off : Bool} {z y : Int} (h : w.heap[p]? = some (.cells (hdr gk n s v off z) 80 (0, 0))) : (w.setCell ⟨p, 4, none⟩ (.int .i64 y)).heap[p]? = some (.cells (hdr gk n s v off y) 80 (0, 0)) := setCell_row w p 4 _ _ _ _ h
theorem Chg.set {p : Nat} {w w' : World} (h : Chg (fun k => k = p) w w') (j : Nat) (u : Value) : Chg (fun k => k = p) w (w'.setCell ⟨p, j, none⟩ u) := h.setCell (fun _ => rfl) u
theorem D.n_of {d d' : D} (h : d'.kept = d.kept) : d'.n = d.n := by unfold D.n; rw [h]

/-! ### what asks only -/
theorem len_any {w : World} {F : Nat → Prop} {p : Nat} {d : D} (h : Disk w F p d) :
    Calls Tryd.prog 49 #[.pointer (some ⟨p, 0, none⟩)] w fun e w' => e = .returned (.int .i64 (d.n : Int)) ∧ w = w' := by
  obtain ⟨gk, s, v, z, h1, h2, h3, r⟩ := h
  obtain ⟨c0, c1, c2, c3, c4, ff⟩ := hdr_cells h1
  clear h1
  go_enter Tryd.func49, Tryd.ntmps49
  go_wp2
  go_ret
  exact ⟨rfl, rfl⟩
theorem staged_any {w : World} {F : Nat → Prop} {p : Nat} {d : D} (h : Disk w F p d) :
    Calls Tryd.prog 25 #[.pointer (some ⟨p, 0, none⟩)] w fun e w' => e = .returned (.int .i64 (d.st.length : Int)) ∧ w = w' := by
  obtain ⟨gk, s, v, z, h1, h2, h3, r⟩ := h
  obtain ⟨a, cap, rfl, -⟩ := h3.st.shape (by decide)
  obtain ⟨c0, c1, c2, c3, c4, ff⟩ := hdr_cells h1
  clear h1
  go_enter Tryd.func25, Tryd.ntmps25
  go_wp2
  go_ret
  exact ⟨rfl, rfl⟩
theorem is_any {w : World} {F : Nat → Prop} {p : Nat} {d : D} (h : Disk w F p d) (i : Int) :
    Calls Tryd.prog 66 #[.pointer (some ⟨p, 0, none⟩), .int .i64 i] w fun e w' => e = .returned (.bool (has d i)) ∧ w = w' := by
  obtain ⟨gk, s, v, z, h1, h2, h3, r⟩ := h
  obtain ⟨c0, c1, c2, c3, c4, ff⟩ := hdr_cells h1
  clear h1
  by_cases hi : 0 ≤ i
  · have hh : RowKit.Hid (has d i = decide (i < (d.n : Int))) := Lib.hid (by unfold has; rw [decide_eq_true hi]; rfl)
    go_enter Tryd.func66, Tryd.ntmps66
    go_wp2
    go_ret
    exact ⟨by rw [hh.out]; rfl, rfl⟩
  · have hh : RowKit.Hid (has d i = false) := Lib.hid (by unfold has; rw [decide_eq_false hi]; rfl)
    have hd : decide ((0 : Int) ≤ i) = false := decide_eq_false hi
    go_enter Tryd.func66, Tryd.ntmps66
    go_wp2
    go_ret
    exact ⟨by rw [hh.out]; rfl, rfl⟩

/-! ### what turns the disk's own block -/
set_option maxHeartbeats 800000 in
theorem fails_any {w : World} {F : Nat → Prop} {p : Nat} {d : D} (h : Disk w F p d) :
    Calls Tryd.prog 83 #[.pointer (some ⟨p, 0, none⟩)] w fun e w' => e = .returned (.bool (fl d)) ∧ Chg (fun k => k = p) w w' ∧ Disk w' F p (after d) := by
  have hD := h
  obtain ⟨gk, s, v, z, h1, h2, h3, r1, r2, r3, rok⟩ := h
  have hok2 := after_ok rok
  obtain ⟨K, st, plan, off, left⟩ := d
  cases off
  · obtain ⟨a, cap, rfl⟩ := h3.plan.shape
    simp only at h1 r1 h3
    obtain ⟨c0, c1, c2, c3, c4, ff⟩ := hdr_cells h1
    have hg2 : left = 0 ∧ z ≤ 0 ∨ left = 1 ∧ z = 1 ∨ 1 < left ∧ 1 < z := by omega
    cases plan with
    | nil =>
      simp only [List.length_nil] at c2
      rcases hg2 with ⟨rfl, hz⟩ | ⟨rfl, rfl⟩ | ⟨hl, hz⟩
      · have hf : RowKit.Hid (fl ⟨K, st, [], false, 0⟩ = false ∧ after ⟨K, st, [], false, 0⟩ = ⟨K, st, [], false, 0⟩) := Lib.hid ⟨rfl, rfl⟩
        have h1h := Lib.hid h1
        clear h1
        go_enter Tryd.func83, Tryd.ntmps83
        go_wp2
        go_ret
        exact ⟨by rw [hf.out.1]; rfl, Chg.refl _ _, by rw [hf.out.2]; exact hD⟩
      · have hf : RowKit.Hid (fl ⟨K, st, [], false, 1⟩ = false ∧ after ⟨K, st, [], false, 1⟩ = ⟨K, st, [], true, 0⟩) := Lib.hid ⟨rfl, rfl⟩
        have h1h := Lib.hid h1
        clear h1
        go_enter Tryd.func83, Tryd.ntmps83
        go_wp2
        go_ret
        have c := ((Chg.refl (fun k => k = p) w).set 4 (.int .i64 0)).set 3 (.bool true)
        exact ⟨by rw [hf.out.1]; rfl, c, by rw [hf.out.2]; exact ⟨gk, _, _, 0, hdr_set3 (hdr_set4 h1h.out), h2, (h3.own h1h.out c).to rfl rfl rfl, by simp <;> omega, by omega, by omega, by rw [← hf.out.2]; exact hok2⟩⟩
      · have hf : RowKit.Hid (fl ⟨K, st, [], false, left⟩ = false ∧ after ⟨K, st, [], false, left⟩ = ⟨K, st, [], false, left - 1⟩) := Lib.hid ⟨rfl, by unfold after; simp; omega⟩
        have h1h := Lib.hid h1
        clear h1
        have hzb : ((z - 1) == 0) = false := by rw [beq_eq_false_iff_ne]; omega
        go_enter Tryd.func83, Tryd.ntmps83
        go_wp2
        go_ret
        have c := ((Chg.refl (fun k => k = p) w).set 4 (.int .i64 (z - 1))).set 3 (.bool false)
        exact ⟨by rw [hf.out.1]; rfl, c, by rw [hf.out.2]; exact ⟨gk, _, _, (z - 1), hdr_set3 (hdr_set4 h1h.out), h2, (h3.own h1h.out c).to rfl rfl rfl, by simp <;> omega, by omega, by omega, by rw [← hf.out.2]; exact hok2⟩⟩
    | cons x plan =>
      have hsl := h3.plan.sl
      obtain ⟨a', cap', e, hsl⟩ := hsl
      cases e
      obtain ⟨gd, od, rfl, cd⟩ := hsl.cells 0 x rfl
      have hcl := hsl.le
      have hcm := hsl.capm
      unfold maxLen at hcm
      have hgp : gd ≠ p := by
        rcases h3.plan with ⟨h, _⟩ | ⟨g, o, cap2, cur, e, _, hh, _⟩
        · cases h
        · cases e
          exact apart hh h1 (by decide)
      unfold bv at cd
      simp only [Nat.add_zero] at cd
      simp only [List.length_cons] at c2 hcl
      have hgp1 : ¬ gd = p := hgp
      have hgp2 : ¬ p = gd := fun h => hgp h.symm
      have hpl := Lib.hid h3.plan
      clear hsl hgp
      have hq1 : (((plan.length + 1 : Nat) : Int) == 0) = false := by rw [beq_eq_false_iff_ne]; omega
      have hq2 : ((plan.length : Int) + 1 == 0) = false := by rw [beq_eq_false_iff_ne]; omega
      rcases hg2 with ⟨rfl, hz⟩ | ⟨rfl, rfl⟩ | ⟨hl, hz⟩
      · have hf : RowKit.Hid (fl ⟨K, st, x :: plan, false, 0⟩ = x ∧ after ⟨K, st, x :: plan, false, 0⟩ = ⟨K, st, plan, false, 0⟩) := Lib.hid ⟨rfl, rfl⟩
        have h1h := Lib.hid h1
        clear h1
        go_enter Tryd.func83, Tryd.ntmps83
        go_wp2
        all_goals
          go_ret
          have ht := hpl.out.tail
          first | simp [sliced, ‹cap = 1›, Addr.add_lit] at ht | simp [sliced, ‹¬cap = 1›, Addr.add_lit] at ht
          refine ⟨by rw [hf.out.1]; rfl, (Chg.refl (fun k => k = p) w).set 2 _, ?_⟩
          rw [hf.out.2]
          exact ⟨gk, _, _, z, hdr_set2 h1h.out, h2, (Parts.planned h3 ht (d' := ⟨K, st, plan, false, 0⟩) rfl rfl rfl).own h1h.out ((Chg.refl (fun k => k = p) w).set 2 _), by simp <;> omega, by omega, by omega, by rw [← hf.out.2]; exact hok2⟩
      · have hf : RowKit.Hid (fl ⟨K, st, x :: plan, false, 1⟩ = x ∧ after ⟨K, st, x :: plan, false, 1⟩ = ⟨K, st, plan, true, 0⟩) := Lib.hid ⟨rfl, rfl⟩
        have h1h := Lib.hid h1
        clear h1
        go_enter Tryd.func83, Tryd.ntmps83
        go_wp2
        all_goals
          go_ret
          have ht := hpl.out.tail
          first | simp [sliced, ‹cap = 1›, Addr.add_lit] at ht | simp [sliced, ‹¬cap = 1›, Addr.add_lit] at ht
          refine ⟨by rw [hf.out.1]; rfl, (((Chg.refl (fun k => k = p) w).set 4 (.int .i64 0)).set 3 (.bool true)).set 2 _, ?_⟩
          rw [hf.out.2]
          exact ⟨gk, _, _, 0, hdr_set2 (hdr_set3 (hdr_set4 h1h.out)), h2, (Parts.planned h3 ht (d' := ⟨K, st, plan, true, 0⟩) rfl rfl rfl).own h1h.out ((((Chg.refl (fun k => k = p) w).set 4 (.int .i64 0)).set 3 (.bool true)).set 2 _), by simp <;> omega, by omega, by omega, by rw [← hf.out.2]; exact hok2⟩
      · have hf : RowKit.Hid (fl ⟨K, st, x :: plan, false, left⟩ = x ∧ after ⟨K, st, x :: plan, false, left⟩ = ⟨K, st, plan, false, left - 1⟩) := Lib.hid ⟨rfl, by unfold after; simp; omega⟩
        have h1h := Lib.hid h1
        clear h1
        have hzb : ((z - 1) == 0) = false := by rw [beq_eq_false_iff_ne]; omega
        go_enter Tryd.func83, Tryd.ntmps83
        go_wp2
        all_goals
          go_ret
          have ht := hpl.out.tail
          first | simp [sliced, ‹cap = 1›, Addr.add_lit] at ht | simp [sliced, ‹¬cap = 1›, Addr.add_lit] at ht
          refine ⟨by rw [hf.out.1]; rfl, (((Chg.refl (fun k => k = p) w).set 4 (.int .i64 (z - 1))).set 3 (.bool false)).set 2 _, ?_⟩
          rw [hf.out.2]
          exact ⟨gk, _, _, (z - 1), hdr_set2 (hdr_set3 (hdr_set4 h1h.out)), h2, (Parts.planned h3 ht (d' := ⟨K, st, plan, false, left - 1⟩) rfl rfl rfl).own h1h.out ((((Chg.refl (fun k => k = p) w).set 4 (.int .i64 (z - 1))).set 3 (.bool false)).set 2 _), by simp <;> omega, by omega, by omega, by rw [← hf.out.2]; exact hok2⟩
  · have hf : RowKit.Hid (fl ⟨K, st, plan, true, left⟩ = true ∧ after ⟨K, st, plan, true, left⟩ = ⟨K, st, plan, true, left⟩) := Lib.hid ⟨rfl, rfl⟩
    obtain ⟨c0, c1, c2, c3, c4, ff⟩ := hdr_cells h1
    clear h1
    go_enter Tryd.func83, Tryd.ntmps83
    go_wp2
    go_ret
    exact ⟨by rw [hf.out.1]; rfl, Chg.refl _ _, by rw [hf.out.2]; exact hD⟩
end Go.Proofs.YtkdmljijgfejpaaDoor


namespace Go.Proofs.YtkdmljijgfejpaaDoor
set_option linter.unusedVariables false
set_option linter.unusedSimpArgs false
open Go.RowKit Dk

theorem drop_any {w : World} {F : Nat → Prop} {p : Nat} {d : D} (h : Disk w F p d) :
    Calls Tryd.prog 46 #[.pointer (some ⟨p, 0, none⟩)] w fun e w' => e = .returned (.tuple #[]) ∧ Chg (fun k => k = p) w w' ∧ Disk w' F p (drop d) := by
  have hD := h
  obtain ⟨gk, s, v, z, h1, h2, h3, r1, r2, r3, rok⟩ := h
  have hok2 := drop_ok rok
  obtain ⟨K, st, plan, off, left⟩ := d
  obtain ⟨c0, c1, c2, c3, c4, ff⟩ := hdr_cells h1
  have h1h := Lib.hid h1
  clear h1
  cases off
  · have hf : RowKit.Hid (drop ⟨K, st, plan, false, left⟩ = ⟨K, [], plan, false, left⟩) := Lib.hid rfl
    go_enter Tryd.func46, Tryd.ntmps46
    go_wp2
    go_end0
    have c := (Chg.refl (fun k => k = p) w).set 1 (.slice none 0 0)
    refine ⟨rfl, c, ?_⟩
    rw [hf.out]
    exact ⟨gk, _, _, z, hdr_set1 h1h.out, h2, ⟨(h3.own h1h.out c).kept, h3.fk, OwnF.nil _ _ _ _, (h3.own h1h.out c).plan⟩, r1, r2, r3, hok2⟩
  · have hf : RowKit.Hid (drop ⟨K, st, plan, true, left⟩ = ⟨K, st, plan, true, left⟩) := Lib.hid rfl
    go_enter Tryd.func46, Tryd.ntmps46
    go_wp2
    go_end0
    exact ⟨rfl, Chg.refl _ _, by rw [hf.out]; exact hD⟩
theorem stop_ok {d : D} (z : Int) (h : d.Ok) : (stop z d).Ok := h.of rfl (fun w hw => hw)
theorem stop_any {w : World} {F : Nat → Prop} {p : Nat} {d : D} (h : Disk w F p d) (n : Int) (hn1 : -9223372036854775808 ≤ n) (hn2 : n ≤ 9223372036854775807) :
    Calls Tryd.prog 26 #[.pointer (some ⟨p, 0, none⟩), .int .i64 n] w fun e w' => e = .returned (.tuple #[]) ∧ Chg (fun k => k = p) w w' ∧ Disk w' F p (stop n d) := by
  have hD := h
  obtain ⟨gk, s, v, z, h1, h2, h3, r1, r2, r3, rok⟩ := h
  have hok2 := stop_ok n rok
  obtain ⟨K, st, plan, off, left⟩ := d
  obtain ⟨c0, c1, c2, c3, c4, ff⟩ := hdr_cells h1
  have h1h := Lib.hid h1
  clear h1
  cases off
  · have hf : RowKit.Hid (stop n ⟨K, st, plan, false, left⟩ = ⟨K, st, plan, n == 0, n.toNat⟩) := Lib.hid rfl
    go_enter Tryd.func26, Tryd.ntmps26
    go_wp2
    all_goals
      go_end0
      refine ⟨rfl, ((Chg.refl (fun k => k = p) w).set 4 _).set 3 _, ?_⟩
      rw [hf.out]
      exact ⟨gk, _, _, _, hdr_set3 (hdr_set4 h1h.out), h2, (h3.own h1h.out (((Chg.refl (fun k => k = p) w).set 4 _).set 3 _)).to rfl rfl rfl, by simp <;> omega, by omega, by omega, hok2⟩
  · have hf : RowKit.Hid (stop n ⟨K, st, plan, true, left⟩ = ⟨K, st, plan, true, n.toNat⟩) := Lib.hid rfl
    go_enter Tryd.func26, Tryd.ntmps26
    go_wp2
    all_goals
      go_end0
      refine ⟨rfl, ((Chg.refl (fun k => k = p) w).set 4 _).set 3 _, ?_⟩
      rw [hf.out]
      exact ⟨gk, _, _, _, hdr_set3 (hdr_set4 h1h.out), h2, (h3.own h1h.out (((Chg.refl (fun k => k = p) w).set 4 _).set 3 _)).to rfl rfl rfl, by simp <;> omega, by omega, by omega, hok2⟩
theorem bv_one (b : Bool) : (bv b).oneCell' = true := rfl
theorem cloneB_any (v : Value) (l : List Bool) (hl : l.length ≤ 1048576) (w : World) (h : Sl bv w v l) :
    Calls Tryd.prog 44 #[v] w (Ret fun v' w' => Own bv 4 w' w.heap.size v' l ∧ Ext w w') := by
  have e0 := Ext.refl w
  have q : ∀ (w : World) (a : Option Addr) (n c n' c' : Nat), (binOp .eql 47 (.slice a n c) (.slice none n' c')).run Tryd.prog w = .ok (.bool a.isNone) w := fun w a n c n' c' => Lib.run_eql_slice_nil w _ _ a n c n' c' Tryd.underlying47
  obtain ⟨a, cap, rfl, hs⟩ := h
  cases a with
  | none =>
    have := hs.none rfl
    subst this
    have hle := hs.le
    obtain rfl : l = [] := List.eq_nil_of_length_eq_zero (by omega)
    go_enter Tryd.func44, Tryd.ntmps44
    go_wp2
    go_ret
    exact Ret.mk ⟨Own.nil _ _ _, e0⟩
  | some ad =>
    go_enter Tryd.func44, Tryd.ntmps44
    go_wp2_with (at_builtin; refine wpList_appendS (z := .bool false) (bytes := 1) Tryd.underlying47 (by kernel_rfl) rfl bv_one rfl _ _ rfl w.heap.size _ [] rfl (Own.empty rfl (Nat.le_refl _)) _ l rfl ⟨_, _, rfl, hs.ext (e0.alloc _)⟩ (by simp; omega) (by simp; omega) ((e0.alloc _).size) ?_; intro v' w' g1 g2)
    go_ret
    exact Ret.mk ⟨g1, Ext.owns (e0.alloc _) (Own.empty (enc := bv) (E := 4) rfl (Nat.le_refl _)) g2⟩
theorem faults_ok {d : D} (l : List Bool) (h : d.Ok) : (faults l d).Ok := h.of rfl (fun w hw => hw)
/-- what is left behind a call that had the disk and made memory -/
def Aft (F : Nat → Prop) (w w' : World) (p : Nat) (d : D) : Prop := Chg F w w' ∧ Disk w' (grow F w) p d
theorem faults_any {w : World} {F : Nat → Prop} {p : Nat} {d : D} (h : Disk w F p d) (v : Value) (l : List Bool) (hl : l.length ≤ 1048576) (hv : Sl bv w v l) :
    Calls Tryd.prog 23 #[.pointer (some ⟨p, 0, none⟩), v] w fun e w' => e = .returned (.tuple #[]) ∧ Aft F w w' p (faults l d) := by
  obtain ⟨gk, s, u, z, h1, h2, h3, r1, r2, r3, rok⟩ := h
  have hok2 := faults_ok l rok
  have e0 := Ext.refl w
  have hcl := cloneB_any v l hl
  go_enter Tryd.func23, Tryd.ntmps23
  go_wp2_with (go_at_call 44; refine (hcl _ hv).mono ?_; rintro e w1 ⟨v', rfl, ho, e1⟩; obtain ⟨a', cap', rfl, -⟩ := ho.shape; have h1' := e1.heap h1; obtain ⟨c0, c1, c2, c3, c4, ff⟩ := hdr_cells h1')
  go_end0
  have c := (Chg.refl (fun k => k = p) w1).set 2 (.slice a' l.length cap')
  have hlt := (Array.getElem?_eq_some_iff.1 h1).1
  refine ⟨rfl, (Chg.of_ext (p := F) e1).trans (c.mono fun k hk => by rw [hk]; exact h2), ?_⟩
  exact ⟨gk, s, _, z, hdr_set2 h1', .inl h2, (((h3.chg (Chg.of_ext (p := fun _ => False) e1) fun _ _ => id).mono fun k hk => Or.inl hk).planned ((OwnO.of_own ho).mono fun k hk => Or.inr hk) (d' := faults l d) rfl rfl rfl).own h1' c, r1, r2, r3, hok2⟩
end Go.Proofs.YtkdmljijgfejpaaDoor


namespace Go.Proofs.YtkdmljijgfejpaaDoor
set_option linter.unusedVariables false
set_option linter.unusedSimpArgs false
open Go.RowKit Dk

/-! ### ranges -/
theorem setCells_list (g : Nat) (E : TypeId) (fr : Nat × Nat) : ∀ (vs : List Value) (o : Nat) (w : World) (cur : Array Value), w.heap[g]? = some (.cells cur E fr) → o + vs.length ≤ cur.size →
    (w.setCells g o vs).heap[g]? = some (.cells (cur.toList.take o ++ vs ++ cur.toList.drop (o + vs.length)).toArray E fr)
  | [], o, w, cur, h, _ => by
    simp only [World.setCells, List.append_nil, List.length_nil, Nat.add_zero, List.take_append_drop]
    exact h
  | v :: rest, o, w, cur, h, hl => by
    simp only [List.length_cons] at hl
    have ih := setCells_list g E fr rest (o + 1) (w.setCell ⟨g, o, none⟩ v) _ (setCell_row w g o cur E fr v h) (by simp; omega)
    rw [World.setCells, ih]
    congr 3
    have e := list_seg_step cur.toList o v rest (by simp; omega)
    simpa [Array.toList_setIfInBounds, Nat.add_assoc, Nat.add_comm 1] using e
theorem kept_range {w : World} {gk : Nat} {cur : Array Value} {E : TypeId} {fr : Nat × Nat} {K : List UInt8} (h : w.heap[gk]? = some (.cells cur E fr)) (hc : cur.toList = K.map u8v) (o n : Nat) : w.rangeAt gk o (((K.drop o).take n).map u8v) := fun j v hv => by
  rw [cell_of_row w gk (o + j) cur _ _ h, ← Array.getElem?_toList, hc]
  rw [List.getElem?_map] at hv ⊢
  rw [List.getElem?_take] at hv
  split at hv
  · rwa [List.getElem?_drop] at hv
  · cases hv
theorem kept_there {w : World} {gk : Nat} {cur : Array Value} {E : TypeId} {K : List UInt8} (h : w.heap[gk]? = some (.cells cur E (0, 0))) (hc : cur.toList = K.map u8v) (o n : Nat) (hn : o + n ≤ K.length) : w.there gk o n := fun j hj => by
  have hs : cur.size = K.length := by rw [← Array.length_toList, hc, List.length_map]
  exact ⟨by rw [cell_of_row w gk (o + j) cur _ _ h, Array.getElem?_eq_getElem (by omega)]; rfl, by simp [World.frozen?, h]⟩
theorem kept_splice {w : World} {gk : Nat} {cur : Array Value} {E : TypeId} {fr : Nat × Nat} {K m : List UInt8} (h : w.heap[gk]? = some (.cells cur E fr)) (hc : cur.toList = K.map u8v) (o : Nat) (hn : o + m.length ≤ K.length) :
    ∃ cur' : Array Value, (w.setCells gk o (m.map u8v)).heap[gk]? = some (.cells cur' E fr) ∧ cur'.toList = (over K o m).map u8v := by
  have hs : cur.size = K.length := by rw [← Array.length_toList, hc, List.length_map]
  refine ⟨_, setCells_list gk E fr (m.map u8v) o w cur h (by simp; omega), ?_⟩
  simp [hc, over]
theorem flat_get {α : Type} {f : α → List Value} {n : Nat} (hf : ∀ x, (f x).length = n) : ∀ (l : List α) (k j : Nat) (x : α), l[k]? = some x → j < n → (l.flatMap f)[k * n + j]? = (f x)[j]?
  | [], k, j, x, h, _ => by simp at h
  | y :: r, 0, j, x, h, hj => by
    simp only [List.getElem?_cons_zero, Option.some.injEq] at h
    subst h
    rw [List.flatMap_cons, Nat.zero_mul, Nat.zero_add, List.getElem?_append_left (by rw [hf]; exact hj)]
  | y :: r, k + 1, j, x, h, hj => by
    rw [List.getElem?_cons_succ] at h
    rw [List.flatMap_cons, List.getElem?_append_right (by rw [hf, Nat.add_mul]; omega), hf, show (k + 1) * n + j - n = k * n + j by rw [Nat.add_mul]; omega]
    exact flat_get hf r k j x h hj
/-- a staged block, where it lies -/
def wc (x : Nat × List UInt8) : List Value := .int .i64 (x.1 : Int) :: (x.2.take 32 ++ List.replicate (32 - x.2.length) 0).map u8v
theorem wc_length (x : Nat × List UInt8) : (wc x).length = 33 := by simp [wc]; omega
theorem wc_of {x : Nat × List UInt8} (h : x.2.length = 32) : wcells x = wc x := by
  unfold wcells wc
  rw [h, List.take_of_length_le (by omega)]; simp
theorem flat_wc : ∀ {l : List (Nat × List UInt8)}, (∀ x ∈ l, x.2.length = 32) → l.flatMap wcells = l.flatMap wc
  | [], _ => rfl
  | x :: r, h => by rw [List.flatMap_cons, List.flatMap_cons, wc_of (h x (by simp)), flat_wc fun y hy => h y (by simp [hy])]
theorem st_range {w : World} {F : Nat → Prop} {s : Value} {st : List (Nat × List UInt8)} {n : Nat} (h : OwnF 92 33 w F s st.length (st.flatMap wcells)) (hs : ∀ x ∈ st, x.1 < n ∧ x.2.length = 32) :
    ∃ a cap, s = .slice a st.length cap ∧ st.length ≤ maxLen ∧ ∀ k x, st[k]? = some x → ∃ g cur, a = some ⟨g, 0, none⟩ ∧ F g ∧ w.heap[g]? = some (.cells cur 92 (0, 0)) ∧ w.rangeAt g (k * 33) (wcells x) := by
  obtain ⟨a, cap, rfl, hm, hc⟩ := h.shape (by decide)
  refine ⟨a, cap, rfl, hm, fun k x hx => ?_⟩
  have hk : k < st.length := (List.getElem?_eq_some_iff.1 hx).1
  obtain ⟨g, cur, rfl, hF, hh, ht⟩ := hc (by omega)
  refine ⟨g, cur, rfl, hF, hh, fun j v hv => ?_⟩
  have hx2 : x.2.length = 32 := (hs x (List.mem_of_getElem? hx)).2
  have hj : j < 33 := by
    have := (List.getElem?_eq_some_iff.1 hv).1
    simp [wcells, hx2] at this; omega
  have e := flat_get wc_length st k j x hx hj
  rw [← flat_wc fun y hy => (hs y hy).2, ← ht, List.getElem?_take, ← wc_of hx2, hv] at e
  split at e
  · rw [cell_of_row w g _ cur _ _ hh, ← Array.getElem?_toList]; exact e
  · cases e
theorem info_block : (Tryd.prog.info? 90).map (·.size) = some 32 := by kernel_rfl
theorem info_write : (Tryd.prog.info? 92).map (·.size) = some 33 := by kernel_rfl

theorem Ext.rowSet {a w : World} (h : Ext a w) {g : Nat} (hg : a.heap.size ≤ g) (cs : Array Value) : Ext a (w.setRow g cs) :=
  ⟨h.os, h.tape, h.output, by simpa [World.setRow] using h.size, fun k hk => (setRow_other w g k cs (by omega)).trans (h.block k hk)⟩
/-- a block's cells -/
def bc (b : List UInt8) : List Value := b.map u8v
theorem bc_length (b : List UInt8) : (bc b).length = b.length := by simp [bc]
theorem bc_one (b : List UInt8) : (bc b).toArray.all (·.oneCell') = true := by
  refine all_oneCell_toArray fun v hv => ?_
  obtain ⟨c, _, rfl⟩ := List.mem_map.1 hv
  rfl
def wcA (x : Nat × List UInt8) : Array Value := (wcells x).toArray
theorem wcA_size {x : Nat × List UInt8} (h : x.2.length = 32) : (wcA x).size = 33 := by simp [wcA, wcells, h]
theorem wcA_one (x : Nat × List UInt8) : (wcA x).all (·.oneCell') = true := by
  refine all_oneCell_toArray fun v hv => ?_
  unfold wcells at hv
  rcases List.mem_cons.1 hv with rfl | hv
  · rfl
  · obtain ⟨c, _, rfl⟩ := List.mem_map.1 hv
    rfl
theorem wcA_at (x : Nat × List UInt8) : (wcA x)[0]? = some (.int .i64 (x.1 : Int)) := by simp [wcA, wcells]
theorem wcA_range {w : World} {g : Nat} {x : Nat × List UInt8} {E : TypeId} {fr : Nat × Nat} (h : w.heap[g]? = some (.cells (wcA x) E fr)) : w.rangeAt g 1 (bc x.2) := fun j v hv => by
  rw [cell_of_row w g _ _ _ _ h]
  unfold wcA wcells
  rw [List.getElem?_toArray, Nat.add_comm 1 j, List.getElem?_cons_succ]
  exact hv
theorem wpList_store_new {P : Program} {ops : Array Oper} {rest : List Oper} {o : Oper} {a : Act} {w : World} {Q : Exit → Act → World → Prop} (W : World) (hgd : o.guard = none) (ty : TypeId) (x y : Operand) (hop : o.op = .store ty x y)
    (cells old : Array Value) (hW : w = W.alloc (.cells old ty)) (hx : a.eval x = .pointer (some ⟨W.heap.size, 0, none⟩)) (hy : a.eval y = .agg cells) (n : Nat) (hi : (P.info? ty).map (·.size) = some n) (hn : cells.size = n) (ho : old.size = n) (h1 : cells.all (·.oneCell') = true)
    (h : wpList P ops Q rest (a.put o.dst undef) (W.alloc (.cells cells ty))) : wpList P ops Q (o :: rest) a w := by
  subst hW
  have hi : (P.info? ty).map (·.size) = some cells.size := by rw [hn]; exact hi
  have hold : old.size = cells.size := ho.trans hn.symm
  refine wpList_store_row hgd ty x y hop W.heap.size cells hx hy ty old (heap_alloc_new W _) hi hold h1 ?_
  rw [show (W.alloc (.cells old ty)).setRow W.heap.size cells = W.alloc (.cells cells ty) from ?_]
  · exact h
  · simp only [World.setRow, World.alloc]
    congr 1
    apply Array.ext_getElem?
    intro i
    rw [Array.getElem?_modify]
    by_cases h : W.heap.size = i
    · subst h
      simp
    · have h' : ¬ i = W.heap.size := fun e => h e.symm
      simp [h, h', Array.getElem?_push]
theorem kept_blk {w : World} {gk : Nat} {cur : Array Value} {E : TypeId} {fr : Nat × Nat} {K : List UInt8} (h : w.heap[gk]? = some (.cells cur E fr)) (hc : cur.toList = K.map u8v) (i : Nat) : w.rangeAt gk (i * 32) (bc (blk K i)) := by
  have := kept_range h hc (i * 32) 32
  rwa [Nat.mul_comm i 32] at this ⊢
theorem Bytes.blk {w : World} {g : Nat} {b : List UInt8} {E : TypeId} {fr : Nat × Nat} (h : w.heap[g]? = some (.cells (bc b).toArray E fr)) (hb : b.length = 32) : Bytes w (.slice (some ⟨g, 0, none⟩) 32 32) b :=
  Bytes.row hb.symm (by omega) (by decide) fun j hj => by
    rw [cell_of_row w g _ _ _ _ h, Nat.zero_add]
    simp [bc, hj, u8v]
theorem Bytes.sub_row {w : World} {g o : Nat} {b : List UInt8} (h : w.rangeAt g o (bc b)) (hb : b.length = 32) : Bytes w (.slice (some ⟨g, o, none⟩) 32 32) b :=
  Bytes.row hb.symm (by omega) (by decide) fun j hj => h j _ (by simp [bc, hj, u8v])
theorem rd_length {K : List UInt8} {st : List (Nat × List UInt8)} {n i : Nat} (hK : K.length = 32 * n) (hs : ∀ x ∈ st, x.1 < n ∧ x.2.length = 32) (hi : i < n) : ∀ k, k ≤ st.length → (rd K st i k).length = 32
  | 0, _ => blk_length hK hi
  | k + 1, hk => by
    rw [rd]
    split
    · have : st.getD k (0, []) ∈ st := by
        rw [List.getD_eq_getElem?_getD, List.getElem?_eq_getElem (by omega)]; exact List.getElem_mem _
      exact (hs _ this).2
    · exact rd_length hK hs hi k (by omega)

set_option maxRecDepth 20000 in
set_option maxHeartbeats 1000000 in
theorem read_own {w : World} {F : Nat → Prop} {p : Nat} {d : D} (h : Disk w F p d) (i : Int) :
    Calls Tryd.prog 52 #[.pointer (some ⟨p, 0, none⟩), .int .i64 i] w (Ret fun v w' => Bytes w' v (rdB i d) ∧ Ext w w' ∧ (v = .slice none 0 0 ∨ ∃ g n c, v = .slice (some ⟨g, 0, none⟩) n c ∧ w.heap.size ≤ g ∧ g < w'.heap.size)) := by
  have hD := h
  have his := is_any h i
  obtain ⟨gk, s, v, z, h1, h2, h3, r1, r2, r3, rok⟩ := h
  obtain ⟨c0, c1, c2, c3, c4, ff⟩ := hdr_cells h1
  have e0 := Ext.refl w
  cases hh : has d i
  · have hr : RowKit.Hid (rdB i d = []) := Lib.hid (by unfold rdB; rw [hh]; rfl)
    rw [hh] at his
    go_enter Tryd.func52, Tryd.ntmps52
    go_wp2_with (go_at_call 66; refine his.mono ?_; rintro e w' ⟨rfl, rfl⟩)
    go_ret
    exact Ret.mk ⟨by rw [hr.out]; exact Bytes.nil _, e0, .inl rfl⟩
  · obtain ⟨i, rfl⟩ : ∃ k : Nat, i = k := ⟨i.toNat, by simp [has] at hh; omega⟩
    have hi : i < d.n := by simp [has] at hh; omega
    have hr : RowKit.Hid (rdB i d = rd d.kept d.st i d.st.length) := Lib.hid (by unfold rdB; rw [hh]; rfl)
    rw [hh] at his
    have hii : (i : Int) < (d.n : Int) := by omega
    obtain ⟨cur, hk, hcur⟩ := h3.kept
    obtain ⟨a, cap, rfl, hsm, hst⟩ := st_range h3.st rok.at_
    have hrg := kept_blk hk hcur i
    have hbl := blk_length rok.len hi
    have hbs : (bc (blk d.kept i)).toArray.size = 32 := by rw [List.size_toArray, bc_length, hbl]
    have d1 := (e0.alloc (.cells (bc (blk d.kept i)).toArray 90)).cell c1
    have hrl := Lib.hid fun k hk => rd_length rok.len rok.at_ hi k hk
    have hat := Lib.hid rok.at_
    have hst2 := Lib.hid hst
    unfold maxLen at hsm
    clear h1 hh hst hD
    have hb0 : RowKit.Hid (rd d.kept d.st i 0 = blk d.kept i) := Lib.hid rfl
    go_enter Tryd.func52, Tryd.ntmps52
    go_wp2_with (first
      | (go_at_call 66; refine his.mono ?_; rintro e w' ⟨rfl, rfl⟩)
      | (refine wpList_load_mid rfl 90 _ rfl gk (i * 32) rfl (bc (blk d.kept i)) _ hrg Tryd.underlying90 rfl (by rw [bc_length, hbl]; exact info_block) ?_)
      | (refine wpList_store_new w rfl 90 _ _ rfl (bc (blk d.kept i)).toArray _ rfl rfl rfl 32 info_block hbs rfl (bc_one _) ?_))
    obtain ⟨g5, hg5⟩ : ∃ g, g = w.heap.size := ⟨_, rfl⟩
    have hn5 : (w.alloc (.cells (bc (blk d.kept i)).toArray 90)).heap[g5]? = some (.cells (bc (rd d.kept d.st i 0)).toArray 90 (0, 0)) := by rw [hg5]; exact heap_alloc_new w _
    have e1 := e0.alloc (.cells (bc (blk d.kept i)).toArray 90)
    rw [← hg5]
    have hg5h := Lib.hid hg5
    clear hg5
    go_loopw [24] (fun ix wr => ∃ k : Nat, k ≤ d.st.length ∧ ix = .int .i64 (k : Int) ∧ wr.heap[g5]? = some (.cells (bc (rd d.kept d.st i k)).toArray 90 (0, 0)) ∧ Ext w wr) (fun ix _ => d.st.length - (intOf ix).toNat)
    case atStart => exact ⟨0, Nat.zero_le _, rfl, hn5, e1⟩
    case round =>
      clear hn5 e1
      obtain ⟨k, hk, rfl, hg, ek⟩ := hrel
      by_cases hlt : k < d.st.length
      · have hst := hst2.out
        obtain ⟨x, hx⟩ : ∃ x, d.st[k]? = some x := ⟨_, List.getElem?_eq_getElem hlt⟩
        have hxd : d.st.getD k (0, []) = x := by rw [List.getD_eq_getElem?_getD, hx]; rfl
        have hx2 := (hat.out x (List.mem_of_getElem? hx)).2
        obtain ⟨g, cg, rfl, hFg, hgg, hrx⟩ := hst k x hx
        have hrx2 : wr.rangeAt g (k * 33) (wcells x) := fun j v hv => ek.cell (hrx j v hv)
        have hwl : (wcells x).length = 33 := by simp [wcells, hx2]
        have hws := Lib.hid (wcA_size hx2)
        have hwa := wcA_at x
        have hnew : (wr.alloc (.cells (wcA x) 92)).heap[wr.heap.size]? = some (.cells (wcA x) 92 (0, 0)) := heap_alloc_new _ _
        have hwr := wcA_range hnew
        have hg2 := ((Ext.refl wr).alloc (.cells (wcA x) 92)).heap hg
        have hlk := hrl.out k (by omega)
        have e2 := ek.alloc (.cells (wcA x) 92)
        have hrd : RowKit.Hid (rd d.kept d.st i (k + 1) = if x.1 = i then x.2 else rd d.kept d.st i k) := Lib.hid (by rw [rd, hxd])
        clear hst hx hxd hrx hgg hnew
        by_cases hxi : x.1 = i
        · have hq : ((x.1 : Int) == (i : Int)) = true := by rw [hxi]; simp
          go_wp2_with (first
            | (refine wpList_load_mid rfl 92 _ rfl g (k * 33) rfl (wcells x) _ hrx2 Tryd.underlying92 rfl (by rw [hwl]; exact info_write) ?_)
            | (refine wpList_store_new wr rfl 92 _ _ rfl (wcA x) _ rfl rfl rfl 33 info_write hws.out rfl (wcA_one _) ?_)
            | (refine wpList_load_mid rfl 90 _ rfl wr.heap.size 1 rfl (bc x.2) _ hwr Tryd.underlying90 rfl (by rw [bc_length, hx2]; exact info_block) ?_)
            | (refine wpList_store_row rfl 90 _ _ rfl g5 (bc x.2).toArray rfl rfl 90 _ hg2 (by rw [List.size_toArray, bc_length, hx2]; exact info_block) (by simp [bc_length, hx2, hlk]) (bc_one _) ?_))
          go_roundw
          case rel => exact ⟨k + 1, by omega, by go_num, by rw [hrd.out, if_pos hxi]; exact setRow_heap _ _ _ _ _ _ hg2, e2.rowSet (by have := hg5h.out; omega) _⟩
          case measure => simp [intOf]; omega
        · have hq : ((x.1 : Int) == (i : Int)) = false := by rw [beq_eq_false_iff_ne]; omega
          go_wp2_with (first
            | (refine wpList_load_mid rfl 92 _ rfl g (k * 33) rfl (wcells x) _ hrx2 Tryd.underlying92 rfl (by rw [hwl]; exact info_write) ?_)
            | (refine wpList_store_new wr rfl 92 _ _ rfl (wcA x) _ rfl rfl rfl 33 info_write hws.out rfl (wcA_one _) ?_))
          go_roundw
          case rel => exact ⟨k + 1, by omega, by go_num, by rw [hrd.out, if_neg hxi]; exact hg2, e2⟩
          case measure => simp [intOf]; omega
      · obtain rfl : k = d.st.length := by omega
        have hl := Lib.hid (hrl.out _ (Nat.le_refl _))
        go_wp2
        go_ret
        exact Ret.mk ⟨by rw [hr.out]; exact Bytes.blk hg hl.out, ek, .inr ⟨g5, 32, 32, rfl, by have := hg5h.out; omega, (Array.getElem?_eq_some_iff.1 hg).1⟩⟩
theorem read_any {w : World} {F : Nat → Prop} {p : Nat} {d : D} (h : Disk w F p d) (i : Int) :
    Calls Tryd.prog 52 #[.pointer (some ⟨p, 0, none⟩), .int .i64 i] w (Ret fun v w' => Bytes w' v (rdB i d) ∧ Ext w w') :=
  (read_own h i).mono fun _ _ ⟨v, h1, h2, h3, _⟩ => ⟨v, h1, h2, h3⟩
end Go.Proofs.YtkdmljijgfejpaaDoor


namespace Go.Proofs.YtkdmljijgfejpaaDoor
set_option linter.unusedVariables false
set_option linter.unusedSimpArgs false
open Go.RowKit Dk

theorem Chg.cell {P : Nat → Prop} {w w' : World} (c : Chg P w w') {a : Addr} {v : Value} (h : w.cell? a = some v) (hn : ¬ P a.block) : w'.cell? a = some v := (World.cell?_of_block (c.block a.block (World.block_lt_of_cell? w a h) hn)).trans h
/-! ### copy -/
theorem info_u8 : (Tryd.prog.info? 5).map (·.size) = some 1 := by kernel_rfl
theorem take_bytes {w : World} {a : Option Addr} {cap : Nat} {l : List UInt8} (h : BytesAt w a cap l) {n : Nat} {ad : Addr} (ha : a = some ad) : ∀ j v, ((l.take n).map u8v)[j]? = some v → w.cell? (ad.add j) = some v := fun j v hv => by
  rw [List.getElem?_map] at hv
  obtain ⟨c, hc, rfl⟩ := Option.map_eq_some_iff.1 hv
  rw [List.getElem?_take] at hc
  split at hc
  · obtain ⟨hj, rfl⟩ := List.getElem?_eq_some_iff.1 hc
    obtain ⟨g, o, e, hcell⟩ := h.cells j hj
    rw [ha] at e
    cases e
    rw [Addr.add_lit]; exact hcell
  · cases hc
theorem run_copyB (w : World) (ty : TypeId) (g off dLen dCap : Nat) (cur : Array Value) (t : TypeId) (hg : w.heap[g]? = some (.cells cur t (0, 0))) (u : Value) (l : List UInt8) (hb : Bytes w u l) (hfit : off + dLen ≤ cur.size) :
    ∃ w', (Builtin.copy_ #[23, 23] ty #[.slice (some ⟨g, off, none⟩) dLen dCap, u]).run Tryd.prog w = .ok (goInt (l.take dLen).length) w' ∧
      w'.heap[g]? = some (.cells (cur.toList.take off ++ (l.take dLen).map u8v ++ cur.toList.drop (off + (l.take dLen).length)).toArray t (0, 0)) ∧ Chg (fun k => k = g) w w' := by
  obtain ⟨a, cap, rfl, hb⟩ := hb
  by_cases h0 : Nat.min l.length dLen = 0
  · have hrun := run_copy_none (P := Tryd.prog) w 23 23 ty 5 (some ⟨g, off, none⟩) a dLen dCap l.length cap Tryd.underlying23 info_u8 h0
    have hl : l.take dLen = [] := by
      apply List.eq_nil_of_length_eq_zero
      rw [List.length_take, Nat.min_comm]; exact h0
    refine ⟨w, by rw [hl]; exact hrun, ?_, Chg.refl _ _⟩
    rw [hl]; simpa using hg
  · cases a with
    | none =>
      have := hb.none rfl
      have := hb.le
      exfalso; apply h0
      have : l.length = 0 := by omega
      rw [this]; exact Nat.zero_min _
    | some ad =>
      have hrun := run_copy_row (P := Tryd.prog) w 23 23 ty 5 g off dLen dCap ad l.length cap cur t ((l.take dLen).map u8v) Tryd.underlying23 info_u8 hg (by rw [List.length_map, List.length_take, Nat.min_comm]) (take_bytes hb rfl) (by simp; omega) (fun v hv => by
        obtain ⟨c, _, rfl⟩ := List.mem_map.1 hv
        rfl)
      rw [List.length_map] at hrun
      refine ⟨_, hrun, ?_, ⟨rfl, rfl, rfl, by simp [World.setRow], fun k hk hp => setRow_other w g k _ hp⟩⟩
      exact setRow_heap w g cur _ t _ hg
theorem wpList_copyB {ops : Array Oper} {rest : List Oper} {o : Oper} {a : Act} {w : World} {Q : Exit → Act → World → Prop} (hgd : o.guard = none) (x y : Operand)
    (ho : o.op = .call { callee := .builtin .copy, args := #[x, y], argTypes := #[23, 23] })
    (g off dLen dCap : Nat) (hx : a.eval x = .slice (some ⟨g, off, none⟩) dLen dCap) (cur : Array Value) (t : TypeId) (hg : w.heap[g]? = some (.cells cur t (0, 0))) (u : Value) (l : List UInt8) (hy : a.eval y = u) (hb : Bytes w u l) (hfit : off + dLen ≤ cur.size)
    (h : ∀ w', w'.heap[g]? = some (.cells (cur.toList.take off ++ (l.take dLen).map u8v ++ cur.toList.drop (off + (l.take dLen).length)).toArray t (0, 0)) → Chg (fun k => k = g) w w' → wpList Tryd.prog ops Q rest (a.put o.dst (goInt (l.take dLen).length)) w') : wpList Tryd.prog ops Q (o :: rest) a w := by
  obtain ⟨w', hrun, h1, h2⟩ := run_copyB w o.type g off dLen dCap cur t hg u l hb hfit
  refine wpList_plain hgd fun K hK => ?_
  unfold Oper.wp
  simp only [execOp, ho, resolve, invoke, builtin, Sem.run_bind, Sem.run_pure, Result.andThen_ok, List.map_toArray, List.map_cons, List.map_nil, hx, hy, hrun]
  exact hK _ _ (h w' h1 h2)
theorem step_copyB {ops : Array Oper} {o : Oper} {a : Act} {w : World} {K : Act → World → Prop} {Q : Exit → Act → World → Prop} {E : Prop} (hgd : o.guard = none) (x y : Operand)
    (ho : o.op = .call { callee := .builtin .copy, args := #[x, y], argTypes := #[23, 23] })
    (g off dLen dCap : Nat) (hx : a.eval x = .slice (some ⟨g, off, none⟩) dLen dCap) (cur : Array Value) (t : TypeId) (hg : w.heap[g]? = some (.cells cur t (0, 0))) (u : Value) (l : List UInt8) (hy : a.eval y = u) (hb : Bytes w u l) (hfit : off + dLen ≤ cur.size)
    (h : ∀ w', w'.heap[g]? = some (.cells (cur.toList.take off ++ (l.take dLen).map u8v ++ cur.toList.drop (off + (l.take dLen).length)).toArray t (0, 0)) → Chg (fun k => k = g) w w' → K (a.put o.dst (goInt (l.take dLen).length)) w') :
    if Region.wanted o (yielded ops a.tmps) = true then Oper.wp Tryd.prog o a w K Q else E := by
  have hw : Region.wanted o (yielded ops a.tmps) = true := by simp [Region.wanted, hgd]
  obtain ⟨w', hrun, h1, h2⟩ := run_copyB w o.type g off dLen dCap cur t hg u l hb hfit
  rw [if_pos hw]
  unfold Oper.wp
  simp only [execOp, ho, resolve, invoke, builtin, Sem.run_bind, Sem.run_pure, Result.andThen_ok, List.map_toArray, List.map_cons, List.map_nil, hx, hy, hrun]
  exact h w' h1 h2
theorem splice_cells {cur : Array Value} {K m : List UInt8} (hc : cur.toList = K.map u8v) (o : Nat) : (cur.toList.take o ++ m.map u8v ++ cur.toList.drop (o + m.length)) = (over K o m).map u8v := by
  simp [hc, over]

/-! ### Sync -/
/-- while blocks are laid -/
structure Lay (w : World) (F : Nat → Prop) (p gk n : Nat) (s v : Value) (off : Bool) (z : Int) (d : D) (K : List UInt8) : Prop where
  head : w.heap[p]? = some (.cells (hdr gk n s v off z) 80 (0, 0))
  parts : Parts w F gk s v { d with kept := K }
theorem Parts.kept_to {w w' : World} {F : Nat → Prop} {gk : Nat} {s v : Value} {d : D} {K K' : List UInt8} (h : Parts w F gk s v { d with kept := K }) (c : Chg (fun k => k = gk) w w') {cur : Array Value} (hk : w'.heap[gk]? = some (.cells cur 90 (0, 0))) (hc : cur.toList = K'.map u8v) : Parts w' F gk s v { d with kept := K' } := by
  obtain ⟨c0, h1, h2⟩ := h.kept
  exact ⟨⟨cur, hk, hc⟩, h.fk, h.st.chg c fun g _ hg _ => apart hg h1 (by decide), h.plan.chgT c fun g _ hg _ => apart hg h1 (by decide)⟩
theorem Lay.put {w w' : World} {F : Nat → Prop} {p gk n : Nat} {s v : Value} {off : Bool} {z : Int} {d : D} {K K' : List UInt8} (h : Lay w F p gk n s v off z d K) (c : Chg (fun k => k = gk) w w') {cur : Array Value} (hk : w'.heap[gk]? = some (.cells cur 90 (0, 0))) (hc : cur.toList = K'.map u8v) : Lay w' F p gk n s v off z d K' := by
  obtain ⟨c0, h1, h2⟩ := h.parts.kept
  exact ⟨by rw [c.block p (Array.getElem?_eq_some_iff.1 h.head).1 (apart h.head h1 (by decide))]; exact h.head, h.parts.kept_to c hk hc⟩
theorem Lay.ext {w w' : World} {F : Nat → Prop} {p gk n : Nat} {s v : Value} {off : Bool} {z : Int} {d : D} {K : List UInt8} (h : Lay w F p gk n s v off z d K) (e : Ext w w') : Lay w' F p gk n s v off z d K :=
  ⟨e.heap h.head, h.parts.chg (G := fun _ => False) (Chg.of_ext e) fun _ _ => id⟩

set_option maxRecDepth 20000 in
set_option maxHeartbeats 1000000 in
theorem sync_any {w : World} {F : Nat → Prop} {p : Nat} {d : D} (h : Disk w F p d) :
    Calls Tryd.prog 72 #[.pointer (some ⟨p, 0, none⟩)] w fun e w' => e = .returned (.int .i64 (syncE d)) ∧ Chg F w w' ∧ Disk w' F p (sync d) := by
  have hfl := fails_any h
  have hFp : F p := by obtain ⟨gk, s, v, z, h1, h2, r⟩ := h; exact h2
  cases hf : fl d
  · have hS : RowKit.Hid (syncE d = 0 ∧ sync d = { after d with kept := lay d.kept d.st (fun _ => 32) d.st.length, st := [] }) := Lib.hid (by unfold syncE sync; rw [hf]; exact ⟨rfl, rfl⟩)
    rw [hf] at hfl
    go_enter Tryd.func72, Tryd.ntmps72
    go_upto_region 3 with (go_at_call 83; refine hfl.mono ?_; rintro e w1 ⟨rfl, hc1, hD1⟩)
    obtain ⟨gk, s, v, z, h1, h2, h3, r1, r2, r3, rok⟩ := hD1
    have hKe := after_kept d
    have hSe := after_st d
    have hat := rok.at_
    have hlen := rok.len
    have hne : (after d).n = d.n := D.n_of hKe
    rw [hne] at h1 hlen
    rw [hSe, hne] at hat
    rw [hKe] at hlen
    obtain ⟨a, cap, rfl, hsm, -⟩ := st_range h3.st rok.at_
    rw [hSe] at h1 h3 hsm
    unfold maxLen at hsm
    obtain ⟨c0, c1, c2, c3, c4, ff⟩ := hdr_cells h1
    have hL0 : Lay w1 F p gk d.n (.slice a d.st.length cap) v (after d).off z (after d) (lay d.kept d.st (fun _ => 32) 0) := ⟨h1, h3.to (by rw [lay]; exact hKe.symm) rfl rfl⟩
    have hlenh := Lib.hid hlen
    have hath := Lib.hid hat
    have hSeh := Lib.hid hSe
    have hneh := Lib.hid hne
    have hrest := Lib.hid (And.intro r1 (And.intro r2 r3))
    have hokS := Lib.hid (sync_ok (h.choose_spec.choose_spec.choose_spec.choose_spec.2.2.2.2.2.2))
    have hL0h := Lib.hid hL0
    clear hKe hSe hat hlen hne r1 r2 r3 h1 h3 rok hL0 h hfl
    go_wp2
    go_loopw [12] (fun ix wr => ∃ k : Nat, k ≤ d.st.length ∧ ix = .int .i64 (k : Int) ∧ Lay wr F p gk d.n (.slice a d.st.length cap) v (after d).off z (after d) (lay d.kept d.st (fun _ => 32) k) ∧ Chg F w wr) (fun ix _ => d.st.length - (intOf ix).toNat)
    case atStart => exact ⟨0, Nat.zero_le _, rfl, hL0h.out, hc1.mono fun k hk => by rw [hk]; exact hFp⟩
    case round =>
      clear hc1 c0 c1 c2 c3 c4 ff
      obtain ⟨k, hk, rfl, hL, ek⟩ := hrel
      by_cases hlt : k < d.st.length
      · obtain ⟨x, hx⟩ : ∃ x, d.st[k]? = some x := ⟨_, List.getElem?_eq_getElem hlt⟩
        have hxd : d.st.getD k (0, []) = x := by rw [List.getD_eq_getElem?_getD, hx]; rfl
        obtain ⟨hx1, hx2⟩ := hath.out x (List.mem_of_getElem? hx)
        have hst : OwnF 92 33 wr F (.slice a d.st.length cap) d.st.length (d.st.flatMap wcells) := by
          have := hL.parts.st
          rw [show ({ after d with kept := lay d.kept d.st (fun _ => 32) k } : D).st = d.st from hSeh.out] at this
          exact this
        obtain ⟨a', cap', e, hsm', hst'⟩ := st_range hst hath.out
        cases e
        obtain ⟨g, cg, rfl, hFg, hgg, hrx⟩ := hst' k x hx
        obtain ⟨cur, hkk, hcur⟩ := hL.parts.kept
        obtain ⟨c0, c1, c2, c3, c4, ff⟩ := hdr_cells hL.head
        have hKl := lay_length hlenh.out hath.out (fun _ => 32) (fun _ => Nat.le_refl _) k hk
        have hwl : (wcells x).length = 33 := by simp [wcells, hx2]
        have hws := Lib.hid (wcA_size hx2)
        have eW := (Ext.refl wr).alloc (.cells (wcA x) 92)
        have hnew : (wr.alloc (.cells (wcA x) 92)).heap[wr.heap.size]? = some (.cells (wcA x) 92 (0, 0)) := heap_alloc_new _ _
        have d0 := eW.cell c0
        have d1 : (wr.alloc (.cells (wcA x) 92)).cell? ⟨wr.heap.size, 0, none⟩ = some (.int .i64 (x.1 : Int)) := by rw [cell_of_row _ _ _ _ _ _ hnew, wcA_at]
        have d2 := wcA_range hnew
        have hk2 := eW.heap hkk
        have d3 := kept_there hk2 hcur (x.1 * 32) 32 (by show _ ≤ (lay d.kept d.st (fun _ => 32) k).length; rw [hKl]; omega)
        have hsp := kept_splice (w := (wr.alloc (.cells (wcA x) 92)).drew) hk2 hcur (m := x.2) (x.1 * 32) (by show _ ≤ (lay d.kept d.st (fun _ => 32) k).length; rw [hKl]; omega)
        have hstep : RowKit.Hid (lay d.kept d.st (fun _ => 32) (k + 1) = over (lay d.kept d.st (fun _ => 32) k) (x.1 * 32) x.2) := Lib.hid (by
          rw [lay, hxd, List.take_of_length_le (by omega), Nat.mul_comm])
        have hu := Tryd.underlying90
        have hbl : (bc x.2).length = 32 := by rw [bc_length, hx2]
        have hin : (Tryd.prog.info? 90).map (·.size) = some (bc x.2).length := by rw [hbl]; exact info_block
        have hone : ∀ v ∈ bc x.2, v.oneCell' = true := fun v hv => by
          obtain ⟨c, _, rfl⟩ := List.mem_map.1 hv
          rfl
        have hL2 := Lib.hid (hL.ext eW)
        have hcS : Chg (fun k => k = gk) (wr.alloc (.cells (wcA x) 92)) ((wr.alloc (.cells (wcA x) 92)).drew.setCells gk (x.1 * 32) (bc x.2)) := ((Chg.refl _ _).drew).trans (setCells_chg (p := fun k => k = gk) gk rfl _ _ _)
        have hgl := (Array.getElem?_eq_some_iff.1 hkk).1
        have f0 := hcS.cell d0 (apart hL.head hkk (by decide))
        have f1 := hcS.cell d1 (by show ¬ wr.heap.size = gk; omega)
        have f2 : ((wr.alloc (.cells (wcA x) 92)).drew.setCells gk (x.1 * 32) (bc x.2)).rangeAt wr.heap.size 1 (bc x.2) := fun j v hv => hcS.cell (d2 j v hv) (by show ¬ wr.heap.size = gk; omega)
        have f3 := World.there_setCells (w := (wr.alloc (.cells (wcA x) 92)).drew) d3 gk (x.1 * 32) (bc x.2)
        have hcS2 := Lib.hid hcS
        clear hcS hgl
        have hxi : (x.1 : Int) < (d.n : Int) := by omega
        have hx0 : (0 : Int) ≤ (x.1 : Int) := by omega
        have hsp2 := Lib.hid hsp
        have hFgk := hL.parts.fk
        clear hst hst' hx hxd hgg hnew hsp hk2 hkk hcur hL c1 c2 c3 c4 ff hKl
        go_upto_region 6 with (first
          | (refine wpList_load_mid rfl 92 _ rfl g (k * 33) rfl (wcells x) _ hrx Tryd.underlying92 rfl (by rw [hwl]; exact info_write) ?_)
          | (refine wpList_store_new wr rfl 92 _ _ rfl (wcA x) _ rfl rfl rfl 33 info_write hws.out rfl (wcA_one _) ?_))
        go_region_held3 (fun W => W.cell? ⟨p, 0, none⟩ = some (.slice (some ⟨gk, 0, none⟩) d.n d.n) ∧ W.cell? ⟨wr.heap.size, 0, none⟩ = some (.int .i64 (x.1 : Int)) ∧ W.rangeAt wr.heap.size 1 (bc x.2) ∧ W.there gk (x.1 * 32) 32)
          ((first | exact ⟨d0, d1, d2, d3⟩ | exact ⟨f0, f1, f2, f3⟩))
          (first | fail)
        go_wp2
        go_roundw
        case rel =>
          obtain ⟨cur', q1, q2⟩ := hsp2.out
          exact ⟨k + 1, by omega, by go_num, by rw [hstep.out]; exact hL2.out.put hcS2.out q1 q2, (ek.alloc _).trans (hcS2.out.mono fun j hj => by rw [hj]; exact hFgk)⟩
        case measure => simp [intOf]; omega
      · obtain rfl : k = d.st.length := by omega
        obtain ⟨c0, c1, c2, c3, c4, ff⟩ := hdr_cells hL.head
        go_wp2
        go_ret
        have c := (Chg.refl (fun k => k = p) wr).set 1 (.slice none 0 0)
        refine ⟨by rw [hS.out.1]; rfl, ek.trans (c.mono fun k hk => by rw [hk]; exact hFp), ?_⟩
        rw [hS.out.2]
        have hP := hL.parts.own hL.head c
        have hn : ({ after d with kept := lay d.kept d.st (fun _ => 32) d.st.length, st := [] } : D).n = d.n := by
          show (lay _ _ _ _).length / 32 = _
          rw [lay_length hlenh.out hath.out _ (fun _ => Nat.le_refl _) _ (Nat.le_refl _)]; omega
        refine ⟨gk, _, v, z, ?_, hFp, ⟨hP.kept, hP.fk, OwnF.nil _ _ _ _, hP.plan⟩, hrest.out.1, hrest.out.2.1, hrest.out.2.2, by rw [← hS.out.2]; exact hokS.out⟩
        rw [hn]; exact hdr_set1 hL.head
  · have hS : RowKit.Hid (syncE d = 21 ∧ sync d = after d) := Lib.hid (by unfold syncE sync; rw [hf]; exact ⟨rfl, rfl⟩)
    rw [hf] at hfl
    go_enter Tryd.func72, Tryd.ntmps72
    go_wp2_with (go_at_call 83; refine hfl.mono ?_; rintro e w1 ⟨rfl, hc1, hD1⟩)
    go_ret
    exact ⟨by rw [hS.out.1]; rfl, hc1.mono fun k hk => by rw [hk]; exact hFp, by rw [hS.out.2]; exact hD1⟩
end Go.Proofs.YtkdmljijgfejpaaDoor


namespace Go.Proofs.YtkdmljijgfejpaaDoor
set_option linter.unusedVariables false
set_option linter.unusedSimpArgs false
open Go.RowKit Dk

theorem info_blockZ : (Tryd.prog.info? 90).map (fun i => (i.zero, i.size, i.bytes)) = some (some (.agg (List.replicate 32 (Value.int .u8 0)).toArray), 32, 32) := by kernel_rfl
def zc (m : Nat) : Array Value := madeCells (Value.cells (.agg (List.replicate 32 (Value.int .u8 0)).toArray)) (m * 32)
theorem zc_list (m : Nat) : (zc m).toList = (List.replicate (32 * m) (0 : UInt8)).map u8v := by
  unfold zc madeCells
  rw [Array.toList_map, Array.toList_range, List.map_replicate]
  apply List.ext_getElem?
  intro j
  rw [List.getElem?_map, List.getElem?_replicate]
  by_cases hj : j < 32 * m
  · rw [if_pos hj, List.getElem?_range (by omega)]
    have h32 : j % 32 < 32 := Nat.mod_lt _ (by decide)
    have hz : ∀ q, q < 32 → (List.replicate 32 (Value.int .u8 0)).toArray[q]! = Value.int .u8 0 := fun q hq => by
      rw [getElem!_pos _ _ (by rw [List.size_toArray, List.length_replicate]; exact hq)]
      simp only [List.getElem_toArray, List.getElem_replicate]
    exact congrArg some (hz _ h32)
  · rw [if_neg hj, List.getElem?_eq_none (by simp; omega)]; rfl
theorem make_blocks (m : Nat) (hm : m ≤ 512) (W : World) : (Instr.makeSlice 77 (.int .i64 (m : Int)) (.int .i64 (m : Int))).run Tryd.prog W = .ok (.slice (some ⟨W.heap.size, 0, none⟩) m m) (W.alloc (.cells (zc m) 90)) := by
  obtain ⟨i, hi, hz0, hz1, hz2⟩ := info_parts info_blockZ
  have h := run_make (P := Tryd.prog) W 77 90 i _ Tryd.underlying77 hi hz0 .i64 .i64 (m : Int) (m : Int) (by omega) (Int.le_refl _) (by rw [hz2]; omega) (by omega)
  rw [Int.toNat_natCast, hz1] at h
  exact h
theorem new_disk (w : World) (m : Nat) (hm : m ≤ 512) : Disk ((w.alloc (.cells (zc m) 90)).alloc (.cells (hdr w.heap.size m (.slice none 0 0) (.slice none 0 0) false (-1)) 80)) (fun k => w.heap.size ≤ k ∧ k < ((w.alloc (.cells (zc m) 90)).alloc (.cells (hdr w.heap.size m (.slice none 0 0) (.slice none 0 0) false (-1)) 80)).heap.size) (w.heap.size + 1) (mk m) := by
  have hs : ((w.alloc (.cells (zc m) 90)).alloc (.cells (hdr w.heap.size m (.slice none 0 0) (.slice none 0 0) false (-1)) 80)).heap.size = w.heap.size + 2 := by
    show ((w.heap.push _).push _).size = _
    simp
  rw [hs]
  refine ⟨w.heap.size, .slice none 0 0, .slice none 0 0, -1, ?_, by omega, ⟨⟨zc m, heap_alloc2_old w _ _, zc_list m⟩, by omega, OwnF.nil _ _ _ _, .inl ⟨rfl, rfl⟩⟩, rfl, by omega, by omega, mk_ok hm⟩
  rw [mk_n]
  exact heap_alloc2_new w _ _
set_option maxHeartbeats 1000000 in
theorem new_any (n : Int) (w : World) :
    Calls Tryd.prog 17 #[.int .i64 n] w (Ret fun v w' => ∃ p, v = .pointer (some ⟨p, 0, none⟩) ∧ Disk w' (fun k => w.heap.size ≤ k ∧ k < w'.heap.size) p (mk (clamp n)) ∧ Ext w w') := by
  have e0 := Ext.refl w
  have hc := clamp_le n
  have hcase : (512 < n ∧ clamp n = 512) ∨ (∃ m : Nat, n = m ∧ m ≤ 512 ∧ 0 < m ∧ clamp n = m) ∨ (n ≤ 0 ∧ clamp n = 0) := by
    unfold clamp
    by_cases h1 : 512 < n
    · left; omega
    · by_cases h2 : n ≤ 0
      · right; right; omega
      · right; left; exact ⟨n.toNat, by omega, by omega, by omega, by omega⟩
  rcases hcase with ⟨h1, h2⟩ | ⟨m, rfl, h1, h0, h2⟩ | ⟨h1, h2⟩
  · rw [h2]
    have hmk : ∀ W, (Instr.makeSlice 77 (.int .i64 512) (.int .i64 512)).run Tryd.prog W = .ok (.slice (some ⟨W.heap.size, 0, none⟩) 512 512) (W.alloc (.cells (zc 512) 90)) := make_blocks 512 (Nat.le_refl _)
    clear h2 hc
    go_enter Tryd.func17, Tryd.ntmps17
    go_wp2
    go_ret
    exact Ret.mk ⟨_, rfl, new_disk w 512 (Nat.le_refl _), (e0.alloc _).alloc _⟩
  · rw [h2]
    have hmk : ∀ W, (Instr.makeSlice 77 (.int .i64 (m : Int)) (.int .i64 (m : Int))).run Tryd.prog W = .ok (.slice (some ⟨W.heap.size, 0, none⟩) m m) (W.alloc (.cells (zc m) 90)) := make_blocks m h1
    have hmi : (m : Int) ≤ 512 := by omega
    have hm0 : (0 : Int) < (m : Int) := by omega
    clear h2 hc
    go_enter Tryd.func17, Tryd.ntmps17
    go_wp2
    go_ret
    exact Ret.mk ⟨_, rfl, new_disk w m h1, (e0.alloc _).alloc _⟩
  · rw [h2]
    have hmk : ∀ W, (Instr.makeSlice 77 (.int .i64 0) (.int .i64 0)).run Tryd.prog W = .ok (.slice (some ⟨W.heap.size, 0, none⟩) 0 0) (W.alloc (.cells (zc 0) 90)) := make_blocks 0 (Nat.zero_le _)
    clear h2 hc
    go_enter Tryd.func17, Tryd.ntmps17
    go_wp2
    go_ret
    exact Ret.mk ⟨_, rfl, new_disk w 0 (Nat.zero_le _), (e0.alloc _).alloc _⟩
end Go.Proofs.YtkdmljijgfejpaaDoor


namespace Go.Proofs.YtkdmljijgfejpaaDoor
set_option linter.unusedVariables false
set_option linter.unusedSimpArgs false
open Go.RowKit Dk

theorem drop_crash (cuts : List UInt8) (d : D) : drop ({ ({ d with plan := [], off := false, left := 0 } : D) with kept := lay d.kept d.st (cutAt cuts) d.st.length } : D) = crash cuts d := rfl
theorem rem33 (c : UInt8) : (wrap64 (c.toNat : Int)).tmod 33 = (c.toNat : Int) % 33 := by
  have := c.toNat_lt
  have e : wrap64 (c.toNat : Int) = (c.toNat : Int) := by rw [wrap64]; omega
  rw [e, Int.tmod_eq_emod_of_nonneg (by omega)]
theorem rem33_at (l : List UInt8) (k : Nat) (h : k < l.length) : (wrap64 ((l[k]'h).toNat : Int)).tmod 33 = ((l.getD k 0).toNat : Int) % 33 := by
  rw [rem33]; simp [List.getD, h]
set_option maxRecDepth 20000 in
set_option maxHeartbeats 1000000 in
theorem crash_any {w : World} {F : Nat → Prop} {p : Nat} {d : D} (h : Disk w F p d) (u : Value) (cuts : List UInt8) (hb : ∀ w', Chg F w w' → Bytes w' u cuts) :
    Calls Tryd.prog 27 #[.pointer (some ⟨p, 0, none⟩), u] w fun e w' => e = .returned (.tuple #[]) ∧ Chg F w w' ∧ Disk w' F p (crash cuts d) := by
  obtain ⟨gk, s, v, z, h1, h2, h3, r1, r2, r3, rok⟩ := h
  have hFp := h2
  have hbh := Lib.hid hb
  obtain ⟨au, capu, rfl, hbu⟩ := hb w (Chg.refl _ _)
  have hul := hbu.len
  have hlen := rok.len
  have hat := rok.at_
  have hmost := rok.most
  obtain ⟨a, cap, rfl, hsm, -⟩ := st_range h3.st rok.at_
  unfold maxLen at hsm
  obtain ⟨c0, c1, c2, c3, c4, ff⟩ := hdr_cells h1
  have cS := (((Chg.refl (fun k => k = p) w).set 3 (.bool false)).set 4 (.int .i64 (-1))).set 2 (.slice none 0 0)
  have hP := h3.own h1 cS
  have hL0 : Lay ((((w.setCell ⟨p, 3, none⟩ (.bool false)).setCell ⟨p, 4, none⟩ (.int .i64 (-1))).setCell ⟨p, 2, none⟩ (.slice none 0 0))) F p gk d.n (.slice a d.st.length cap) (.slice none 0 0) false (-1) { d with plan := [], off := false, left := 0 } (lay d.kept d.st (cutAt cuts) 0) :=
    ⟨hdr_set2 (hdr_set4 (hdr_set3 h1)), ⟨hP.kept, hP.fk, hP.st, .inl ⟨rfl, rfl⟩⟩⟩
  have hlenh := Lib.hid hlen
  have hath := Lib.hid hat
  have hL0h := Lib.hid hL0
  have hok := Lib.hid (rok.laid (cutAt cuts) (cutAt_le cuts) [] false 0)
  have hrok := Lib.hid rok
  have hcw := Lib.hid (cS.mono fun k hk => by rw [hk]; exact hFp : Chg F w _)
  clear hb hbu hlen hat h1 h3 r1 r2 r3 rok hP hL0 cS
  go_enter Tryd.func27, Tryd.ntmps27
  go_wp2
  go_loopw [21] (fun ix wr => ∃ k : Nat, k ≤ d.st.length ∧ ix = .int .i64 (k : Int) ∧ Lay wr F p gk d.n (.slice a d.st.length cap) (.slice none 0 0) false (-1) { d with plan := [], off := false, left := 0 } (lay d.kept d.st (cutAt cuts) k) ∧ Chg F w wr) (fun ix _ => d.st.length - (intOf ix).toNat)
  case atStart => exact ⟨0, Nat.zero_le _, rfl, hL0h.out, hcw.out⟩
  case round =>
    clear c0 c1 c2 c3 c4 ff
    obtain ⟨k, hk, rfl, hL, ek⟩ := hrel
    by_cases hlt : k < d.st.length
    · obtain ⟨x, hx⟩ : ∃ x, d.st[k]? = some x := ⟨_, List.getElem?_eq_getElem hlt⟩
      have hxd : d.st.getD k (0, []) = x := by rw [List.getD_eq_getElem?_getD, hx]; rfl
      obtain ⟨hx1, hx2⟩ := hath.out x (List.mem_of_getElem? hx)
      have hst : OwnF 92 33 wr F (.slice a d.st.length cap) d.st.length (d.st.flatMap wcells) := hL.parts.st
      obtain ⟨a', cap', e, hsm', hst'⟩ := st_range hst hath.out
      cases e
      obtain ⟨g, cg, rfl, hFg, hgg, hrx⟩ := hst' k x hx
      obtain ⟨cur, hkk, hcur⟩ := hL.parts.kept
      obtain ⟨c0, c1, c2, c3, c4, ff⟩ := hdr_cells hL.head
      have hKl := lay_length hlenh.out hath.out (cutAt cuts) (cutAt_le cuts) k hk
      have hwl : (wcells x).length = 33 := by simp [wcells, hx2]
      have hws := Lib.hid (wcA_size hx2)
      have eW := (Ext.refl wr).alloc (.cells (wcA x) 92)
      have hnew : (wr.alloc (.cells (wcA x) 92)).heap[wr.heap.size]? = some (.cells (wcA x) 92 (0, 0)) := heap_alloc_new _ _
      have d0 := eW.cell c0
      have d1 : (wr.alloc (.cells (wcA x) 92)).cell? ⟨wr.heap.size, 0, none⟩ = some (.int .i64 (x.1 : Int)) := by rw [cell_of_row _ _ _ _ _ _ hnew, wcA_at]
      have d2 := wcA_range hnew
      have hk2 := eW.heap hkk
      have hcs : cur.size = 32 * d.n := by rw [← Array.length_toList, hcur, List.length_map]; exact hKl
      have hxi : (x.1 : Int) < (d.n : Int) := by omega
      have hx0 : (0 : Int) ≤ (x.1 : Int) := by omega
      have hBx := Lib.hid ((Bytes.sub_row d2 hx2).ext ((Ext.refl _).drew))
      have hstep : RowKit.Hid (lay d.kept d.st (cutAt cuts) (k + 1) = over (lay d.kept d.st (cutAt cuts) k) (x.1 * 32) (x.2.take (cutAt cuts k))) := Lib.hid (by
        rw [lay, hxd, Nat.mul_comm])
      have hcutl := Lib.hid (cutAt_le cuts k)
      have hL2 := Lib.hid (hL.ext eW)
      have hFgk := hL.parts.fk
      have ekW : Chg F w (wr.alloc (.cells (wcA x) 92)) := ek.alloc _
      have hBc := hbh.out _ ekW
      have hk2h := Lib.hid hk2
      have hgl := (Array.getElem?_eq_some_iff.1 hkk).1
      have hne0 : ¬ p = gk := apart hL.head hkk (by decide)
      have hne1 : ¬ wr.heap.size = gk := by omega
      have hcurh := Lib.hid hcur
      have hcsh := Lib.hid hcs
      clear hst hst' hx hxd hgg hnew hkk hcur hL c1 c2 c3 c4 ff hKl hk2 hcs
      obtain ⟨au', capu', e, hBc⟩ := hBc
      cases e
      go_upto_if 29 with (first
        | (refine wpList_load_mid rfl 92 _ rfl g (k * 33) rfl (wcells x) _ hrx Tryd.underlying92 rfl (by rw [hwl]; exact info_write) ?_)
        | (refine wpList_store_new wr rfl 92 _ _ rfl (wcA x) _ rfl rfl rfl 33 info_write hws.out rfl (wcA_one _) ?_))
      go_cut [6] (fun t wd => t = .int .i64 ((cutAt cuts k : Nat) : Int) ∧ wr.alloc (.cells (wcA x) 92) = wd)
      case first =>
        by_cases hkc : k < cuts.length
        · obtain ⟨gu, ou, rfl, hcc⟩ := hBc.get k hkc
          have hcv : RowKit.Hid (((cutAt cuts k : Nat) : Int) = ((cuts.getD k 0).toNat : Int) % 33) := Lib.hid (by unfold cutAt; rw [if_pos hkc]; omega)
          have hbb := (cuts.getD k 0).toNat_lt
          have hki : (k : Int) < (cuts.length : Int) := by omega
          go_wp2
          go_meet
          case rel =>
            refine ⟨?_, rfl⟩
            rw [hcv.out]
            exact congrArg (Value.int .i64) (rem33_at cuts k hkc)
        · have hcv : RowKit.Hid (cutAt cuts k = 0) := Lib.hid (by unfold cutAt; rw [if_neg hkc])
          have hki : (cuts.length : Int) ≤ (k : Int) := by omega
          go_wp2
          go_meet
          case rel => exact ⟨by rw [hcv.out]; rfl, rfl⟩
      case rest =>
        have hcut2 := hcut
        obtain ⟨rfl, rfl⟩ := hcut2
        have hcl := hcutl.out
        generalize cutAt cuts k = n at hcl hstep
        have hn0 : (0 : Int) ≤ (n : Int) := by omega
        have hn32 : (n : Int) ≤ 32 := by omega
        have hlt2 : (x.2.take n).length = n := by rw [List.length_take]; omega
        go_upto_region 7 with fail
        go_region_held3 (fun W => W.cell? ⟨p, 0, none⟩ = some (.slice (some ⟨gk, 0, none⟩) d.n d.n) ∧ W.cell? ⟨wr.heap.size, 0, none⟩ = some (.int .i64 (x.1 : Int)))
          ((first | exact ⟨d0, d1⟩ | exact ⟨f0, f1⟩))
          (first
            | (refine step_copyB rfl (.tmp 44) (.tmp 46) rfl gk (x.1 * 32) n 32 rfl cur 90 hk2h.out (.slice (some ⟨wr.heap.size, 1, none⟩) 32 32) x.2 rfl hBx.out (by have := hcsh.out; omega) ?_; intro w3 g1 g2; have f0 := g2.cell d0 hne0; have f1 := g2.cell d1 hne1))
        go_wp2
        go_roundw
        case rel =>
          have hcc : (cur.toList.take (x.1 * 32) ++ (x.2.take n).map u8v ++ cur.toList.drop (x.1 * 32 + (x.2.take n).length)).toArray.toList = (over (lay d.kept d.st (cutAt cuts) k) (x.1 * 32) (x.2.take n)).map u8v := by
            rw [List.toList_toArray]; exact splice_cells hcurh.out _
          exact ⟨k + 1, by omega, by go_num, by rw [hstep.out]; exact hL2.out.put (Chg.trans ((Chg.refl _ _).drew) g2) g1 hcc, ekW.trans ((Chg.trans ((Chg.refl _ _).drew) g2).mono fun j hj => by rw [hj]; exact hFgk)⟩
        case measure => simp [intOf]; omega
    · obtain rfl : k = d.st.length := by omega
      have hD : Disk wr F p ({ ({ d with plan := [], off := false, left := 0 } : D) with kept := lay d.kept d.st (cutAt cuts) d.st.length } : D) := by
        have hl := lay_length hlenh.out hath.out (cutAt cuts) (cutAt_le cuts) _ (Nat.le_refl _)
        have hn : ({ ({ d with plan := [], off := false, left := 0 } : D) with kept := lay d.kept d.st (cutAt cuts) d.st.length } : D).n = d.n := by
          show (lay _ _ _ _).length / 32 = _
          rw [hl]; omega
        refine ⟨gk, _, _, -1, by rw [hn]; exact hL.head, hFp, hL.parts, rfl, by omega, by omega, ⟨?_, ?_, fun x hx => ?_⟩⟩
        · rw [hn]; exact hl
        · rw [hn]; exact hmost
        · rw [hn]; exact hath.out x hx
      go_wp2_with (go_at_call 46; refine (drop_any hD).mono ?_; rintro e w2 ⟨rfl, hc2, hD2⟩)
      go_end0
      exact ⟨rfl, ek.trans (hc2.mono fun k hk => by rw [hk]; exact hFp), by rw [← drop_crash]; exact hD2⟩
end Go.Proofs.YtkdmljijgfejpaaDoor


namespace Go.Proofs.YtkdmljijgfejpaaDoor
set_option linter.unusedVariables false
set_option linter.unusedSimpArgs false
open Go.RowKit Dk

theorem info_writeZ : (Tryd.prog.info? 92).map (fun i => (i.zero, i.size, i.bytes)) = some (some (.agg (wcA (0, List.replicate 32 0))), 33, 40) := by kernel_rfl
theorem step_appendW {ops : Array Oper} {o : Oper} {a : Act} {w : World} {K : Act → World → Prop} {Q : Exit → Act → World → Prop} {E : Prop} (hgd : o.guard = none) (s x : Operand)
    (ho : o.op = .call { callee := .builtin .append, args := #[s, x], argTypes := #[78, 78] })
    (F : Nat → Prop) (v : Value) (n : Nat) (xs : List Value) (hs : a.eval s = v) (hown : OwnF 92 33 w F v n xs) (g : Nat) (y : Nat × List UInt8) (hy2 : y.2.length = 32) (hx : a.eval x = .slice (some ⟨g, 0, none⟩) 1 1) (hg : w.heap[g]? = some (.cells (wcA y) 92 (0, 0)))
    (hlen : n + 1 ≤ 140737488355)
    (h : ∀ v' w', OwnF 92 33 w' (grow F w) v' (n + 1) (xs ++ wcells y) → Chg (fun k => v.ownBlock = some k) w w' → K (a.put o.dst v') w') :
    if Region.wanted o (yielded ops a.tmps) = true then Oper.wp Tryd.prog o a w K Q else E := by
  have hw : Region.wanted o (yielded ops a.tmps) = true := by simp [Region.wanted, hgd]
  obtain ⟨v', w', hrun, h1, h2⟩ := run_appendF (P := Tryd.prog) (E := 92) (T := 78) Tryd.underlying78 info_writeZ (by rfl) (by decide) o.type w (fun k => v.ownBlock = some k) v n xs ⟨hown.1, fun k hk => hk⟩ ⟨g, 0, none⟩ 1 1 (wcells y) (by simp [wcells, hy2]) (fun j u hu => by
    rw [Addr.add_lit, cell_of_row w g _ _ _ _ hg, Nat.zero_add, ← Array.getElem?_toList]; exact hu) (fun u hu => by
    have := wcA_one y
    exact (Array.all_eq_true_iff_forall_mem.1 this) u (by simpa [wcA] using hu)) (by unfold maxLen; omega) (by omega)
  rw [if_pos hw]
  unfold Oper.wp
  simp only [execOp, ho, resolve, invoke, builtin, Sem.run_bind, Sem.run_pure, Result.andThen_ok, List.map_toArray, List.map_cons, List.map_nil, hs, hx, hrun]
  exact h v' w' (h1.mono fun k hk => hk.imp (hown.2 k) id) h2
theorem OwnF.ne {E E' : TypeId} {size : Nat} {w : World} {F : Nat → Prop} {v : Value} {n p : Nat} {xs : List Value} (h : OwnF E size w F v n xs) {C : Array Value} {fr : Nat × Nat} (hp : w.heap[p]? = some (.cells C E' fr)) (hE : E ≠ E') : ∀ k, v.ownBlock = some k → k ≠ p := fun k hk => by
  obtain ⟨⟨_, h⟩, _⟩ := h
  rcases h with ⟨rfl, _⟩ | ⟨g, cap, cur, rfl, _, hh, _⟩
  · simp [Value.ownBlock] at hk
  · simp only [Value.ownBlock, Option.some.injEq] at hk
    subst hk
    exact Go.Proofs.YtkdmljijgfejpaaDoor.apart hh hp hE
theorem fold_at : ∀ (vs : List Value) (k : Nat) (C : Array Value), k + vs.length = C.size → (vs.zipIdx k).foldl (fun cs x => cs.setIfInBounds x.2 x.1) C = (C.toList.take k ++ vs).toArray
  | [], k, C, h => by
    simp only [List.zipIdx_nil, List.foldl_nil, List.append_nil]
    rw [List.take_of_length_le (by simp at h ⊢; omega)]
  | v :: r, k, C, h => by
    simp only [List.length_cons] at h
    rw [List.zipIdx_cons, List.foldl_cons, fold_at r (k + 1) _ (by simp; omega)]
    congr 1
    rw [Array.toList_setIfInBounds, List.take_set, List.take_succ_eq_append_getElem (by simp; omega), List.set_append_right _ _ (by simp; omega)]
    simp [Nat.min_eq_left (show k ≤ C.size by omega)]
theorem fold_set (vs : List Value) (C : Array Value) (h : vs.length = C.size) : List.foldl (fun cs x => cs.setIfInBounds x.2 x.1) C vs.zipIdx = vs.toArray := by
  have := fold_at vs 0 C (by omega)
  simpa using this
theorem wr_cells (i : Nat) (b : List UInt8) (hb : b.length ≤ 32) (C : Array Value) (hC : C.toList = .int .i64 (i : Int) :: (List.replicate 32 (0 : UInt8)).map u8v) :
    (C.toList.take 1 ++ (b.take 32).map u8v ++ C.toList.drop (1 + (b.take 32).length)).toArray = wcA (i, pad b) := by
  rw [hC, List.take_of_length_le hb]
  unfold wcA wcells pad
  congr 1
  rw [List.take_succ_cons, List.take_zero, Nat.add_comm 1, List.drop_succ_cons, ← List.map_drop, List.drop_replicate]
  simp
theorem Disk.hd {w : World} {F : Nat → Prop} {p : Nat} {d : D} (h : Disk w F p d) : F p := by obtain ⟨gk, s, v, z, h1, h2, r⟩ := h; exact h2
theorem wr_ok (i : Nat) (b : List UInt8) {d : D} (h : (after d).Ok) (hi : i < d.n) (hb : b.length ≤ 32) : ({ after d with st := d.st ++ [(i, pad b)] } : D).Ok := by
  have hn : (after d).n = d.n := D.n_of (after_kept d)
  have e : ({ after d with st := d.st ++ [(i, pad b)] } : D).n = (after d).n := rfl
  refine ⟨h.len, h.most, fun w hw => ?_⟩
  rw [e, hn]
  rcases List.mem_append.1 hw with hw | hw
  · rw [← after_st d] at hw
    have := h.at_ w hw
    rwa [hn] at this
  · rw [List.mem_singleton] at hw
    subst hw
    exact ⟨hi, pad_length hb⟩
theorem write_end {w w1 A w5 : World} {F : Nat → Prop} {p gk i : Nat} {d : D} {b : List UInt8} {s v v' : Value} {z : Int} (hFp : F p) (hcF : Chg F w w1)
    (h1 : w1.heap[p]? = some (.cells (hdr gk (after d).n s v (after d).off z) 80 (0, 0))) (h3 : Parts w1 F gk s v (after d)) (r1 : z.toNat = (after d).left) (r2 : -1 ≤ z) (r3 : z ≤ 9223372036854775807) (rok : (after d).Ok)
    (eA : Ext w1 A) (g1 : OwnF 92 33 w5 (grow F A) v' (d.st.length + 1) (d.st.flatMap wcells ++ wcells (i, pad b))) (g2 : Chg (fun k => s.ownBlock = some k) A w5) (hi : i < d.n) (hb : b.length ≤ 32) :
    Aft F w (w5.setCell ⟨p, 1, none⟩ v') p { after d with st := d.st ++ [(i, pad b)] } := by
  obtain ⟨cur, hk, hcur⟩ := h3.kept
  have stA := h3.st.ext eA
  have h1A := eA.heap h1
  have hkA := eA.heap hk
  have hp5 := (g2.block p (Array.getElem?_eq_some_iff.1 h1A).1 fun e => stA.ne h1A (by decide) p e rfl).trans h1A
  have hk5 := (g2.block gk (Array.getElem?_eq_some_iff.1 hkA).1 fun e => stA.ne hkA (by decide) gk e rfl).trans hkA
  have cP := (Chg.refl (fun k => k = p) w5).set 1 v'
  have hs1 : w.heap.size ≤ A.heap.size := Nat.le_trans hcF.size eA.size
  have hn : ({ after d with st := d.st ++ [(i, pad b)] } : D).n = (after d).n := rfl
  refine ⟨((hcF.ext eA).trans (g2.mono h3.st.2)).trans (cP.mono fun k hk => by rw [hk]; exact hFp), gk, v', v, z, by rw [hn]; exact hdr_set1 hp5, .inl hFp, ⟨⟨cur, ?_, hcur⟩, .inl h3.fk, ?_, ?_⟩, r1, r2, r3, wr_ok i b rok hi hb⟩
  · rw [cP.block gk (Array.getElem?_eq_some_iff.1 hk5).1 (Go.Proofs.YtkdmljijgfejpaaDoor.apart hk5 hp5 (by decide))]; exact hk5
  · have := (g1.chg cP fun g c hg _ => Go.Proofs.YtkdmljijgfejpaaDoor.apart hg hp5 (by decide)).mono (G := grow F w) fun k hk => hk.imp id fun h => Nat.le_trans hs1 h
    show OwnF _ _ _ _ _ (d.st ++ [(i, pad b)]).length ((d.st ++ [(i, pad b)]).flatMap wcells)
    rw [List.length_append, List.flatMap_append]
    simpa using this
  · have := ((h3.plan.ext eA).chgT g2 fun g c hg _ e => stA.ne hg (by decide) g e rfl).chgT cP fun g c hg _ => Go.Proofs.YtkdmljijgfejpaaDoor.apart hg hp5 (by decide)
    exact this.mono fun k hk => .inl hk
set_option maxRecDepth 20000 in
set_option maxHeartbeats 1000000 in
theorem write_any {w : World} {F : Nat → Prop} {p : Nat} {d : D} (h : Disk w F p d) (hst : d.st.length ≤ 1048576) (i : Int) (u : Value) (b : List UInt8) (hb : ∀ w', Chg F w w' → Bytes w' u b) :
    Calls Tryd.prog 71 #[.pointer (some ⟨p, 0, none⟩), .int .i64 i, u] w fun e w' => e = .returned (.int .i64 (wrE i b d)) ∧ Aft F w w' p (wrB i b d) := by
  have his := is_any h i
  have hfl := fails_any h
  have hFp := h.hd
  have hD := h
  have hbh := Lib.hid hb
  obtain ⟨au, capu, rfl, hbu⟩ := hb w (Chg.refl _ _)
  have hul := hbu.len
  clear hb hbu
  cases hh : has d i
  · have hr : RowKit.Hid (wrE i b d = 4 ∧ wrB i b d = d) := Lib.hid (by unfold wrE wrB; rw [hh]; exact ⟨rfl, rfl⟩)
    rw [hh] at his
    go_enter Tryd.func71, Tryd.ntmps71
    go_wp2_with (go_at_call 66; refine his.mono ?_; rintro e w' ⟨rfl, rfl⟩)
    go_ret
    exact ⟨by rw [hr.out.1]; rfl, Chg.refl _ _, by rw [hr.out.2]; exact hD.mono fun _ => Or.inl⟩
  · rw [hh] at his
    by_cases h32 : 32 < b.length
    · have hr : RowKit.Hid (wrE i b d = 2 ∧ wrB i b d = d) := Lib.hid (by unfold wrE wrB; rw [hh, if_pos h32, if_pos h32]; exact ⟨rfl, rfl⟩)
      have h32i : (32 : Int) < (b.length : Int) := by omega
      go_enter Tryd.func71, Tryd.ntmps71
      go_wp2_with (go_at_call 66; refine his.mono ?_; rintro e w' ⟨rfl, rfl⟩)
      go_ret
      exact ⟨by rw [hr.out.1]; rfl, Chg.refl _ _, by rw [hr.out.2]; exact hD.mono fun _ => Or.inl⟩
    · have h32i : (b.length : Int) ≤ 32 := by omega
      cases hf : fl d
      · obtain ⟨i, rfl⟩ : ∃ k : Nat, i = k := ⟨i.toNat, by simp [has] at hh; omega⟩
        have hi : i < d.n := by simp [has] at hh; omega
        have hr : RowKit.Hid (wrE (i : Int) b d = 0 ∧ wrB (i : Int) b d = { after d with st := d.st ++ [(i, pad b)] }) := Lib.hid (by
          unfold wrE wrB; rw [hh, if_neg h32, if_neg h32, hf]; exact ⟨rfl, by simp⟩)
        rw [hf] at hfl
        clear hh
        have hpl : (pad b).length = 32 := pad_length (by omega)
        have hwl : (wcells (i, pad b)).length = 33 := by simp [wcells, hpl]
        go_enter Tryd.func71, Tryd.ntmps71
        go_upto_region 7 with (first
          | (go_at_call 66; refine his.mono ?_; rintro e w' ⟨rfl, rfl⟩)
          | (go_at_call 83; refine hfl.mono ?_; rintro e w1 ⟨rfl, hc1, hD1⟩))
        obtain ⟨gk, s, v, z, h1, h2, h3, r1, r2, r3, rok⟩ := hD1
        have hcF : Chg F w w1 := hc1.mono fun k hk => by rw [hk]; exact hFp
        have hB1 := hbh.out _ (hcF.alloc (.cells (wcA (i, List.replicate 32 0)) 92))
        obtain ⟨c0, c1, c2, c3, c4, ff⟩ := hdr_cells h1
        have eW := (Ext.refl w1).alloc (.cells (wcA (i, List.replicate 32 0)) 92)
        have hnew := heap_alloc_new w1 (.cells (wcA (i, List.replicate 32 0)) 92)
        have hws := wcA_size (x := (i, List.replicate 32 0)) (by simp)
        have hZ : RowKit.Hid ((#[.int .i64 (i : Int), .int .u8 0, .int .u8 0, .int .u8 0, .int .u8 0, .int .u8 0, .int .u8 0, .int .u8 0, .int .u8 0, .int .u8 0, .int .u8 0, .int .u8 0, .int .u8 0, .int .u8 0, .int .u8 0, .int .u8 0, .int .u8 0, .int .u8 0, .int .u8 0, .int .u8 0, .int .u8 0, .int .u8 0, .int .u8 0, .int .u8 0, .int .u8 0, .int .u8 0, .int .u8 0, .int .u8 0, .int .u8 0, .int .u8 0, .int .u8 0, .int .u8 0, .int .u8 0] : Array Value) = wcA (i, List.replicate 32 0)) := Lib.hid rfl
        have hwc := Lib.hid (wr_cells i b (by omega) (wcA (i, List.replicate 32 0)) rfl)
        go_upto_region 8 with (refine wpList_store_new w1 rfl 92 _ _ rfl (wcA (i, List.replicate 32 0)) _ rfl rfl (by first | rfl | exact congrArg Value.agg hZ.out) 33 info_write hws rfl (wcA_one _) ?_)
        go_frame
        go_cut [7] (fun t wd => t = .pointer (some ⟨w1.heap.size, 0, none⟩) ∧ wd.heap[w1.heap.size]? = some (.cells (wcA (i, pad b)) 92 (0, 0)) ∧ Ext w1 wd)
        case first =>
          go_wp2_with (refine wpList_copyB rfl (.tmp 23) (.tmp 24) rfl w1.heap.size 1 32 32 rfl (wcA (i, List.replicate 32 0)) 92 hnew _ b rfl hB1 (by rw [hws]; exact Nat.le_refl _) ?_; intro w3 g1 g2)
          go_meet
          case rel => exact ⟨rfl, by rw [hwc.out] at g1; exact g1, eW.chg g2 fun j hj => by rw [hj]; exact Nat.le_refl _⟩
        case rest =>
          obtain ⟨rfl, hgn, e3⟩ := hcut
          have hSt := after_st d
          have hown : OwnF 92 33 wc F s d.st.length (d.st.flatMap wcells) := by
            have := h3.st
            rw [hSt] at this
            exact this.ext e3
          obtain ⟨sa, caps, rfl, hsm, -⟩ := hown.shape (by decide)
          have hr0 : wc.rangeAt w1.heap.size 0 (wcells (i, pad b)) := fun j v hv => by
            rw [cell_of_row wc _ _ _ _ _ hgn, Nat.zero_add, ← Array.getElem?_toList]; exact hv
          have d1 := e3.cell c1
          have hu := Tryd.underlying92
          have hin : (Tryd.prog.info? 92).map (·.size) = some (wcells (i, pad b)).length := by rw [hwl]; exact info_write
          have eA : Ext wc (wc.alloc (.cells (wcA (i, pad b)) 92)).drew := ((Ext.refl wc).alloc _).drew
          have hgA : (wc.alloc (.cells (wcA (i, pad b)) 92)).drew.heap[wc.heap.size]? = some (.cells (wcA (i, pad b)) 92 (0, 0)) := heap_alloc_new wc _
          have hfold : ∀ C : Array Value, C.size = 33 → List.foldl (fun cs x => cs.setIfInBounds x.2 x.1) C (wcells (i, pad b)).zipIdx = wcA (i, pad b) := fun C hC => fold_set _ _ (by rw [hwl, hC])
          have hownA : OwnF 92 33 (wc.alloc (.cells (wcA (i, pad b)) 92)).drew F (.slice sa d.st.length caps) d.st.length (d.st.flatMap wcells) := hown.ext eA
          have dA := eA.cell d1
          have hrA : (wc.alloc (.cells (wcA (i, pad b)) 92)).drew.rangeAt w1.heap.size 0 (wcells (i, pad b)) := fun j v hv => eA.cell (hr0 j v hv)
          have h1A := eA.heap (e3.heap h1)
          have hpA := (Array.getElem?_eq_some_iff.1 h1A).1
          have hneA : ¬ (Value.slice sa d.st.length caps).ownBlock = some p := fun h => (hown.ne (e3.heap h1) (by decide)) p h rfl
          have hneB : ¬ (Value.slice sa d.st.length caps).ownBlock = some w1.heap.size := fun h => by
            have h3' := h3.st
            rw [hSt] at h3'
            have := (World.ownsRow.lt h3'.1 _ h).2
            omega
          have hneP : ¬ w1.heap.size = p := by have := (Array.getElem?_eq_some_iff.1 h1).1; omega
          clear c0 c2 c3 c4 ff hnew hws hZ hwc hB1
          go_upto_region 9 with fail
          refine wp_region_held_drew (S := fun W => W.rangeAt w1.heap.size 0 (wcells (i, pad b))) (by kernel_rfl) ?_ (fun hHeld => ?_)
          · exact hr0
          refine wpAnyH_take (i := 0) (v := ?_) rfl (by kernel_rfl) (by kernel_rfl) (by kernel_rfl) (fun _ _ _ h => h) (Or.inl ⟨by rfl, ?_⟩) (by assumption) ?_
          rotate_left
          · (intro w hSw; (try dsimp only at hSw); go_simp; try with_reducible rfl)
          try simp only [Act.put, List.setIfInBounds_toArray, List.set_cons_zero, List.set_cons_succ]
          refine wpAnyH_take (i := 1) (v := ?_) rfl (by kernel_rfl) (by kernel_rfl) (by kernel_rfl) (fun _ _ _ h => h) (Or.inl ⟨by rfl, ?_⟩) (by assumption) ?_
          rotate_left
          · (intro w hSw; (try dsimp only at hSw); go_simp; try with_reducible rfl)
          try simp only [Act.put, List.setIfInBounds_toArray, List.set_cons_zero, List.set_cons_succ]
          refine wpAnyH_take (i := 2) (v := ?_) rfl (by kernel_rfl) (by kernel_rfl) (by kernel_rfl) (fun _ _ _ h => h) (Or.inl ⟨by rfl, ?_⟩) (by assumption) ?_
          rotate_left
          · (intro w hSw; (try dsimp only at hSw); go_simp; try with_reducible rfl)
          try simp only [Act.put, List.setIfInBounds_toArray, List.set_cons_zero, List.set_cons_succ]
          refine wpAnyH_take (i := 3) (v := ?_) rfl (by kernel_rfl) (by kernel_rfl) (by kernel_rfl) (fun _ _ _ h => h) (Or.inl ⟨by rfl, ?_⟩) (by assumption) ?_
          rotate_left
          · (intro w hSw; (try dsimp only at hSw); go_simp; try with_reducible rfl)
          try simp only [Act.put, List.setIfInBounds_toArray, List.set_cons_zero, List.set_cons_succ]
          refine' wpAnyH_take (i := 5) (v := _) rfl (by kernel_rfl) (by kernel_rfl) (by kernel_rfl) (fun _ _ _ h => h) (yieldsIf_load_mid (by rfl) _ _ rfl _ _ rfl (wcells (i, pad b)) _ ?hS ?hu ?hd ?hi) (by assumption) ?rest
          case hS => exact fun w h => h
          case hu => exact hu
          case hd => rfl
          case hi => exact hin
          try simp only [Act.put, List.setIfInBounds_toArray, List.set_cons_zero, List.set_cons_succ]
          refine wpAnyH_ready (rs := [4, 6]) (by kernel_rfl) (by simp) ?_
          refine AllReadyH.cons rfl (fun K hK => ?_) ?_
          · go_simp
            clear hHeld
            refine hK.out _ _ ?_ (fun hHeld => ?_)
            · exact hr0
            clear hK K
            try simp only [Act.put, List.setIfInBounds_toArray, List.set_cons_zero, List.set_cons_succ]
            refine wpAnyH_ready (rs := [6]) (by kernel_rfl) (by simp) ?_
            refine AllReadyH.cons rfl (fun K hK => ?_) ?_
            · go_simp
              clear hHeld
              refine hK.out _ _ ?_ (fun hHeld => ?_)
              · exact hrA
              clear hK K
              try simp only [Act.put, List.setIfInBounds_toArray, List.set_cons_zero, List.set_cons_succ]
              refine wpAnyH_ready (rs := [7]) (by kernel_rfl) (by simp) ?_
              refine AllReadyH.cons rfl (fun K hK => ?_) ?_
              · refine step_appendW rfl (.tmp 30) (.tmp 32) rfl F (.slice sa d.st.length caps) d.st.length (d.st.flatMap wcells) (by rfl) hownA wc.heap.size (i, pad b) hpl (by rfl) hgA (by omega) ?_
                intro v' w5 g1 g2
                obtain ⟨sb, capb, rfl, -⟩ := g1.shape (by decide)
                have hp5 := (g2.block p hpA hneA).trans h1A
                obtain ⟨k0, k1, k2, k3, k4, kf⟩ := hdr_cells hp5
                have hr5 : w5.rangeAt w1.heap.size 0 (wcells (i, pad b)) := fun j v hv => g2.cell (hrA j v hv) hneB
                have hrS : (w5.setCell ⟨p, 1, none⟩ (.slice sb (d.st.length + 1) capb)).rangeAt w1.heap.size 0 (wcells (i, pad b)) := fun j v hv => ((Chg.refl (fun k => k = p) w5).set 1 _).cell (hr5 j v hv) hneP
                clear hHeld
                refine hK.out _ _ ?_ (fun hHeld => ?_)
                · exact hr5
                clear hK K
                try simp only [Act.put, List.setIfInBounds_toArray, List.set_cons_zero, List.set_cons_succ]
                refine wpAnyH_take (i := 8) (v := ?_) rfl (by kernel_rfl) (by kernel_rfl) (by kernel_rfl) (fun _ _ _ h => h) (Or.inl ⟨by rfl, ?_⟩) (by assumption) ?_
                rotate_left
                · (intro w hSw; (try dsimp only at hSw); go_simp; try with_reducible rfl)
                try simp only [Act.put, List.setIfInBounds_toArray, List.set_cons_zero, List.set_cons_succ]
                refine wpAnyH_take (i := 9) (v := ?_) rfl (by kernel_rfl) (by kernel_rfl) (by kernel_rfl) (fun _ _ _ h => h) (Or.inl ⟨by rfl, ?_⟩) (by assumption) ?_
                rotate_left
                · (intro w hSw; (try dsimp only at hSw); go_simp; try with_reducible rfl)
                try simp only [Act.put, List.setIfInBounds_toArray, List.set_cons_zero, List.set_cons_succ]
                refine wpAnyH_ready (rs := [10]) (by kernel_rfl) (by simp) ?_
                refine AllReadyH.cons rfl (fun K hK => ?_) ?_
                · go_simp
                  clear hHeld
                  refine hK.out _ _ ?_ (fun hHeld => ?_)
                  · exact hrS
                  clear hK K
                  try simp only [Act.put, List.setIfInBounds_toArray, List.set_cons_zero, List.set_cons_succ]
                  refine wpAnyH_done (by kernel_rfl) ?_ _
                  go_wp2
                  go_ret
                  exact ⟨by rw [hr.out.1]; rfl, by rw [hr.out.2]; exact write_end hFp hcF h1 h3 r1 r2 r3 rok (e3.trans eA) g1 g2 hi (by omega)⟩
                exact AllReadyH.nil
              exact AllReadyH.nil
            exact AllReadyH.nil
          refine AllReadyH.cons rfl (fun K hK => ?_) ?_
          · go_simp
            clear hHeld
            refine hK.out _ _ ?_ (fun hHeld => ?_)
            · exact hrA
            clear hK K
            try simp only [Act.put, List.setIfInBounds_toArray, List.set_cons_zero, List.set_cons_succ]
            refine wpAnyH_ready (rs := [4]) (by kernel_rfl) (by simp) ?_
            refine AllReadyH.cons rfl (fun K hK => ?_) ?_
            · go_simp
              clear hHeld
              refine hK.out _ _ ?_ (fun hHeld => ?_)
              · exact hrA
              clear hK K
              try simp only [Act.put, List.setIfInBounds_toArray, List.set_cons_zero, List.set_cons_succ]
              refine wpAnyH_ready (rs := [7]) (by kernel_rfl) (by simp) ?_
              refine AllReadyH.cons rfl (fun K hK => ?_) ?_
              · refine step_appendW rfl (.tmp 30) (.tmp 32) rfl F (.slice sa d.st.length caps) d.st.length (d.st.flatMap wcells) (by rfl) hownA wc.heap.size (i, pad b) hpl (by rfl) hgA (by omega) ?_
                intro v' w5 g1 g2
                obtain ⟨sb, capb, rfl, -⟩ := g1.shape (by decide)
                have hp5 := (g2.block p hpA hneA).trans h1A
                obtain ⟨k0, k1, k2, k3, k4, kf⟩ := hdr_cells hp5
                have hr5 : w5.rangeAt w1.heap.size 0 (wcells (i, pad b)) := fun j v hv => g2.cell (hrA j v hv) hneB
                have hrS : (w5.setCell ⟨p, 1, none⟩ (.slice sb (d.st.length + 1) capb)).rangeAt w1.heap.size 0 (wcells (i, pad b)) := fun j v hv => ((Chg.refl (fun k => k = p) w5).set 1 _).cell (hr5 j v hv) hneP
                clear hHeld
                refine hK.out _ _ ?_ (fun hHeld => ?_)
                · exact hr5
                clear hK K
                try simp only [Act.put, List.setIfInBounds_toArray, List.set_cons_zero, List.set_cons_succ]
                refine wpAnyH_take (i := 8) (v := ?_) rfl (by kernel_rfl) (by kernel_rfl) (by kernel_rfl) (fun _ _ _ h => h) (Or.inl ⟨by rfl, ?_⟩) (by assumption) ?_
                rotate_left
                · (intro w hSw; (try dsimp only at hSw); go_simp; try with_reducible rfl)
                try simp only [Act.put, List.setIfInBounds_toArray, List.set_cons_zero, List.set_cons_succ]
                refine wpAnyH_take (i := 9) (v := ?_) rfl (by kernel_rfl) (by kernel_rfl) (by kernel_rfl) (fun _ _ _ h => h) (Or.inl ⟨by rfl, ?_⟩) (by assumption) ?_
                rotate_left
                · (intro w hSw; (try dsimp only at hSw); go_simp; try with_reducible rfl)
                try simp only [Act.put, List.setIfInBounds_toArray, List.set_cons_zero, List.set_cons_succ]
                refine wpAnyH_ready (rs := [10]) (by kernel_rfl) (by simp) ?_
                refine AllReadyH.cons rfl (fun K hK => ?_) ?_
                · go_simp
                  clear hHeld
                  refine hK.out _ _ ?_ (fun hHeld => ?_)
                  · exact hrS
                  clear hK K
                  try simp only [Act.put, List.setIfInBounds_toArray, List.set_cons_zero, List.set_cons_succ]
                  refine wpAnyH_done (by kernel_rfl) ?_ _
                  go_wp2
                  go_ret
                  exact ⟨by rw [hr.out.1]; rfl, by rw [hr.out.2]; exact write_end hFp hcF h1 h3 r1 r2 r3 rok (e3.trans eA) g1 g2 hi (by omega)⟩
                exact AllReadyH.nil
              exact AllReadyH.nil
            exact AllReadyH.nil
          exact AllReadyH.nil
      · have hr : RowKit.Hid (wrE i b d = 21 ∧ wrB i b d = after d) := Lib.hid (by unfold wrE wrB; rw [hh, if_neg h32, if_neg h32, hf]; exact ⟨rfl, rfl⟩)
        rw [hf] at hfl
        go_enter Tryd.func71, Tryd.ntmps71
        go_wp2_with (first
          | (go_at_call 66; refine his.mono ?_; rintro e w' ⟨rfl, rfl⟩)
          | (go_at_call 83; refine hfl.mono ?_; rintro e w1 ⟨rfl, hc1, hD1⟩))
        go_ret
        exact ⟨by rw [hr.out.1]; rfl, hc1.mono fun k hk => by rw [hk]; exact hFp, by rw [hr.out.2]; exact hD1.mono fun _ => Or.inl⟩
end Go.Proofs.YtkdmljijgfejpaaDoor


