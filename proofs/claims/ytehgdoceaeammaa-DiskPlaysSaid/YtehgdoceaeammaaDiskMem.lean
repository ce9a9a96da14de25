/- Disks in memory: the program's. -/
import Derived.Test.YtehgdoceaeammaaDiskMath
import Derived.Test.YtehgdoceaeammaaOwn
import Derived.Deep.MidRow
namespace Go.Proofs.Ytehgdoceaeammaa
open Go.RowKit Dk

def bv (b : Bool) : Value := .bool b
/-- a staged block's cells -/
def wcells (x : Nat × List UInt8) : List Value := .int .i64 (x.1 : Int) :: x.2.map u8v
def grow (F : Nat → Prop) (w : World) : Nat → Prop := fun k => F k ∨ w.heap.size ≤ k
/-- what a disk has beside its own block -/
structure Parts (w : World) (F : Nat → Prop) (gk : Nat) (s v : Value) (d : D) : Prop where
  kept : ∃ cur : Array Value, w.heap[gk]? = some (.cells cur 63 (0, 0)) ∧ cur.toList = d.kept.map u8v
  fk : F gk
  st : OwnF 65 33 w F s d.st.length (d.st.flatMap wcells)
  plan : OwnO bv 4 w F v d.plan
def hdr (gk n : Nat) (s v : Value) (off : Bool) (z : Int) : Array Value := #[.slice (some ⟨gk, 0, none⟩) n n, s, v, .bool off, .int .i64 z]
/-- a disk that lies at block p, with all it has within F -/
def Disk (w : World) (F : Nat → Prop) (p : Nat) (d : D) : Prop :=
  ∃ gk s v z, w.heap[p]? = some (.cells (hdr gk d.n s v d.off z) 60 (0, 0)) ∧ F p ∧ Parts w F gk s v d ∧ z.toNat = d.left ∧ -1 ≤ z ∧ z ≤ 9223372036854775807 ∧ d.Ok
theorem apart {w : World} {a b : Nat} {C C' : Array Value} {E E' : TypeId} {fr fr' : Nat × Nat} (h : w.heap[a]? = some (.cells C E fr)) (h' : w.heap[b]? = some (.cells C' E' fr')) (hE : E ≠ E') : a ≠ b := by
  rintro rfl
  rw [h] at h'
  simp only [Option.some.injEq, Obj.cells.injEq] at h'
  exact hE h'.2.1
theorem OwnO.chgT {α : Type} {enc : α → Value} {E : TypeId} {w w' : World} {F G : Nat → Prop} {v : Value} {l : List α} (h : OwnO enc E w F v l) (c : Chg G w w') (hG : ∀ g cur, w.heap[g]? = some (.cells cur E (0, 0)) → F g → ¬ G g) : OwnO enc E w' F v l := by
  rcases h with h | ⟨g, o, cap, cur, h1, h2, hh, r⟩
  · exact .inl h
  · exact .inr ⟨g, o, cap, cur, h1, h2, by rw [c.block g (Array.getElem?_eq_some_iff.1 hh).1 (hG g cur hh h2)]; exact hh, r⟩
theorem Parts.mono {w : World} {F G : Nat → Prop} {gk : Nat} {s v : Value} {d : D} (h : Parts w F gk s v d) (hF : ∀ k, F k → G k) : Parts w G gk s v d :=
  ⟨h.kept, hF _ h.fk, h.st.mono hF, h.plan.mono hF⟩
theorem Disk.mono {w : World} {F G : Nat → Prop} {p : Nat} {d : D} (h : Disk w F p d) (hF : ∀ k, F k → G k) : Disk w G p d := by
  obtain ⟨gk, s, v, z, h1, h2, h3, r⟩ := h
  exact ⟨gk, s, v, z, h1, hF _ h2, h3.mono hF, r⟩
theorem Parts.chg {w w' : World} {F G : Nat → Prop} {gk : Nat} {s v : Value} {d : D} (h : Parts w F gk s v d) (c : Chg G w w') (hG : ∀ k, F k → ¬ G k) : Parts w' F gk s v d := by
  obtain ⟨cur, h1, h2⟩ := h.kept
  exact ⟨⟨cur, by rw [c.block gk (Array.getElem?_eq_some_iff.1 h1).1 (hG _ h.fk)]; exact h1, h2⟩, h.fk, h.st.chg c fun g _ _ hF => hG g hF, h.plan.chg c hG⟩
theorem Disk.chg {w w' : World} {F G : Nat → Prop} {p : Nat} {d : D} (h : Disk w F p d) (c : Chg G w w') (hG : ∀ k, F k → ¬ G k) : Disk w' F p d := by
  obtain ⟨gk, s, v, z, h1, h2, h3, r⟩ := h
  exact ⟨gk, s, v, z, by rw [c.block p (Array.getElem?_eq_some_iff.1 h1).1 (hG _ h2)]; exact h1, h2, h3.chg c hG, r⟩
theorem Disk.ext {w w' : World} {F : Nat → Prop} {p : Nat} {d : D} (h : Disk w F p d) (e : Ext w w') : Disk w' F p d := h.chg (G := fun _ => False) (Chg.of_ext e) fun _ _ => id
theorem Disk.bound {w : World} {F : Nat → Prop} {p : Nat} {d : D} (h : Disk w F p d) : Disk w (fun k => F k ∧ k < w.heap.size) p d := by
  obtain ⟨gk, s, v, z, h1, h2, h3, r⟩ := h
  obtain ⟨cur, k1, k2⟩ := h3.kept
  exact ⟨gk, s, v, z, h1, ⟨h2, (Array.getElem?_eq_some_iff.1 h1).1⟩, ⟨⟨cur, k1, k2⟩, ⟨h3.fk, (Array.getElem?_eq_some_iff.1 k1).1⟩, h3.st.lt, h3.plan.lt⟩, r⟩
/-- only the disk's own block has turned -/
theorem Parts.own {w w' : World} {F : Nat → Prop} {gk p : Nat} {s v : Value} {d : D} {C : Array Value} (h : Parts w F gk s v d) (hp : w.heap[p]? = some (.cells C 60 (0, 0))) (c : Chg (fun k => k = p) w w') : Parts w' F gk s v d := by
  obtain ⟨cur, h1, h2⟩ := h.kept
  exact ⟨⟨cur, by rw [c.block gk (Array.getElem?_eq_some_iff.1 h1).1 (apart h1 hp (by decide))]; exact h1, h2⟩, h.fk, h.st.chg c fun g _ hg _ => apart hg hp (by decide), h.plan.chgT c fun g _ hg _ => apart hg hp (by decide)⟩
theorem Parts.to {w : World} {F : Nat → Prop} {gk : Nat} {s v : Value} {d d' : D} (h : Parts w F gk s v d) (hk : d'.kept = d.kept) (hs : d'.st = d.st) (hp : d'.plan = d.plan) : Parts w F gk s v d' :=
  ⟨by rw [hk]; exact h.kept, h.fk, by rw [hs]; exact h.st, by rw [hp]; exact h.plan⟩
theorem Parts.planned {w : World} {F : Nat → Prop} {gk : Nat} {s v v' : Value} {d d' : D} (h : Parts w F gk s v d) {l : List Bool} (hp : OwnO bv 4 w F v' l) (hk : d'.kept = d.kept) (hs : d'.st = d.st) (hl : d'.plan = l) : Parts w F gk s v' d' :=
  ⟨by rw [hk]; exact h.kept, h.fk, by rw [hs]; exact h.st, by rw [hl]; exact hp⟩
/-- the disk's own cells -/
theorem hdr_cells {w : World} {p gk n : Nat} {s v : Value} {off : Bool} {z : Int} (h : w.heap[p]? = some (.cells (hdr gk n s v off z) 60 (0, 0))) :
    w.cell? ⟨p, 0, none⟩ = some (.slice (some ⟨gk, 0, none⟩) n n) ∧ w.cell? ⟨p, 1, none⟩ = some s ∧ w.cell? ⟨p, 2, none⟩ = some v ∧ w.cell? ⟨p, 3, none⟩ = some (.bool off) ∧ w.cell? ⟨p, 4, none⟩ = some (.int .i64 z) ∧ ∀ j, w.frozen? ⟨p, j, none⟩ = false :=
  ⟨by rw [cell_of_row _ _ _ _ _ _ h]; rfl, by rw [cell_of_row _ _ _ _ _ _ h]; rfl, by rw [cell_of_row _ _ _ _ _ _ h]; rfl, by rw [cell_of_row _ _ _ _ _ _ h]; rfl, by rw [cell_of_row _ _ _ _ _ _ h]; rfl, fun j => by simp [World.frozen?, h]⟩
theorem hdr_set1 {w : World} {p gk n : Nat} {s v u : Value} {off : Bool} {z : Int} (h : w.heap[p]? = some (.cells (hdr gk n s v off z) 60 (0, 0))) : (w.setCell ⟨p, 1, none⟩ u).heap[p]? = some (.cells (hdr gk n u v off z) 60 (0, 0)) := setCell_row w p 1 _ _ _ _ h
theorem hdr_set2 {w : World} {p gk n : Nat} {s v u : Value} {off : Bool} {z : Int} (h : w.heap[p]? = some (.cells (hdr gk n s v off z) 60 (0, 0))) : (w.setCell ⟨p, 2, none⟩ u).heap[p]? = some (.cells (hdr gk n s u off z) 60 (0, 0)) := setCell_row w p 2 _ _ _ _ h
theorem hdr_set3 {w : World} {p gk n : Nat} {s v : Value} {off b : Bool} {z : Int} (h : w.heap[p]? = some (.cells (hdr gk n s v off z) 60 (0, 0))) : (w.setCell ⟨p, 3, none⟩ (.bool b)).heap[p]? = some (.cells (hdr gk n s v b z) 60 (0, 0)) := setCell_row w p 3 _ _ _ _ h
theorem hdr_set4 {w : World} {p gk n : Nat} {s v : Value} {off : Bool} {z y : Int} (h : w.heap[p]? = some (.cells (hdr gk n s v off z) 60 (0, 0))) : (w.setCell ⟨p, 4, none⟩ (.int .i64 y)).heap[p]? = some (.cells (hdr gk n s v off y) 60 (0, 0)) := setCell_row w p 4 _ _ _ _ h
theorem Chg.set {p : Nat} {w w' : World} (h : Chg (fun k => k = p) w w') (j : Nat) (u : Value) : Chg (fun k => k = p) w (w'.setCell ⟨p, j, none⟩ u) := h.setCell (fun _ => rfl) u
theorem D.n_of {d d' : D} (h : d'.kept = d.kept) : d'.n = d.n := by unfold D.n; rw [h]

/-! ### what asks only -/
theorem len_any {w : World} {F : Nat → Prop} {p : Nat} {d : D} (h : Disk w F p d) :
    Calls Try.prog 22 #[.pointer (some ⟨p, 0, none⟩)] w fun e w' => e = .returned (.int .i64 (d.n : Int)) ∧ w = w' := by
  obtain ⟨gk, s, v, z, h1, h2, h3, r⟩ := h
  obtain ⟨c0, c1, c2, c3, c4, ff⟩ := hdr_cells h1
  clear h1
  go_enter Try.func22, Try.ntmps22
  go_wp2
  go_ret
  exact ⟨rfl, rfl⟩
theorem on_any {w : World} {F : Nat → Prop} {p : Nat} {d : D} (h : Disk w F p d) :
    Calls Try.prog 17 #[.pointer (some ⟨p, 0, none⟩)] w fun e w' => e = .returned (.bool (!d.off)) ∧ w = w' := by
  obtain ⟨gk, s, v, z, h1, h2, h3, r⟩ := h
  obtain ⟨c0, c1, c2, c3, c4, ff⟩ := hdr_cells h1
  clear h1
  go_enter Try.func17, Try.ntmps17
  go_wp2
  go_ret
  exact ⟨rfl, rfl⟩
theorem staged_any {w : World} {F : Nat → Prop} {p : Nat} {d : D} (h : Disk w F p d) :
    Calls Try.prog 12 #[.pointer (some ⟨p, 0, none⟩)] w fun e w' => e = .returned (.int .i64 (d.st.length : Int)) ∧ w = w' := by
  obtain ⟨gk, s, v, z, h1, h2, h3, r⟩ := h
  obtain ⟨a, cap, rfl, -⟩ := h3.st.shape (by decide)
  obtain ⟨c0, c1, c2, c3, c4, ff⟩ := hdr_cells h1
  clear h1
  go_enter Try.func12, Try.ntmps12
  go_wp2
  go_ret
  exact ⟨rfl, rfl⟩
theorem is_any {w : World} {F : Nat → Prop} {p : Nat} {d : D} (h : Disk w F p d) (i : Int) :
    Calls Try.prog 36 #[.pointer (some ⟨p, 0, none⟩), .int .i64 i] w fun e w' => e = .returned (.bool (has d i)) ∧ w = w' := by
  obtain ⟨gk, s, v, z, h1, h2, h3, r⟩ := h
  obtain ⟨c0, c1, c2, c3, c4, ff⟩ := hdr_cells h1
  clear h1
  by_cases hi : 0 ≤ i
  · have hh : RowKit.Hid (has d i = decide (i < (d.n : Int))) := Lib.hid (by unfold has; rw [decide_eq_true hi]; rfl)
    go_enter Try.func36, Try.ntmps36
    go_wp2
    go_ret
    exact ⟨by rw [hh.out]; rfl, rfl⟩
  · have hh : RowKit.Hid (has d i = false) := Lib.hid (by unfold has; rw [decide_eq_false hi]; rfl)
    have hd : decide ((0 : Int) ≤ i) = false := decide_eq_false hi
    go_enter Try.func36, Try.ntmps36
    go_wp2
    go_ret
    exact ⟨by rw [hh.out]; rfl, rfl⟩

/-! ### what turns the disk's own block -/
set_option maxHeartbeats 800000 in
theorem fails_any {w : World} {F : Nat → Prop} {p : Nat} {d : D} (h : Disk w F p d) :
    Calls Try.prog 37 #[.pointer (some ⟨p, 0, none⟩)] w fun e w' => e = .returned (.bool (fl d)) ∧ Chg (fun k => k = p) w w' ∧ Disk w' F p (after d) := by
  have hD := h
  obtain ⟨gk, s, v, z, h1, h2, h3, r1, r2, r3, rok⟩ := h
  have hok2 := after_ok rok
  obtain ⟨K, st, plan, off, left⟩ := d
  cases off
  · obtain ⟨a, cap, rfl⟩ := h3.plan.shape
    simp only at h1 r1 h3
    obtain ⟨c0, c1, c2, c3, c4, ff⟩ := hdr_cells h1
    have hg2 : left = 0 ∧ z ≤ 0 ∨ left = 1 ∧ z = 1 ∨ 1 < left ∧ 1 < z := by omega
    cases plan with
    | nil =>
      simp only [List.length_nil] at c2
      rcases hg2 with ⟨rfl, hz⟩ | ⟨rfl, rfl⟩ | ⟨hl, hz⟩
      · have hf : RowKit.Hid (fl ⟨K, st, [], false, 0⟩ = false ∧ after ⟨K, st, [], false, 0⟩ = ⟨K, st, [], false, 0⟩) := Lib.hid ⟨rfl, rfl⟩
        have h1h := Lib.hid h1
        clear h1
        go_enter Try.func37, Try.ntmps37
        go_wp2
        go_ret
        exact ⟨by rw [hf.out.1]; rfl, Chg.refl _ _, by rw [hf.out.2]; exact hD⟩
      · have hf : RowKit.Hid (fl ⟨K, st, [], false, 1⟩ = false ∧ after ⟨K, st, [], false, 1⟩ = ⟨K, st, [], true, 0⟩) := Lib.hid ⟨rfl, rfl⟩
        have h1h := Lib.hid h1
        clear h1
        go_enter Try.func37, Try.ntmps37
        go_wp2
        go_ret
        have c := ((Chg.refl (fun k => k = p) w).set 4 (.int .i64 0)).set 3 (.bool true)
        exact ⟨by rw [hf.out.1]; rfl, c, by rw [hf.out.2]; exact ⟨gk, _, _, 0, hdr_set3 (hdr_set4 h1h.out), h2, (h3.own h1h.out c).to rfl rfl rfl, by simp <;> omega, by omega, by omega, by rw [← hf.out.2]; exact hok2⟩⟩
      · have hf : RowKit.Hid (fl ⟨K, st, [], false, left⟩ = false ∧ after ⟨K, st, [], false, left⟩ = ⟨K, st, [], false, left - 1⟩) := Lib.hid ⟨rfl, by unfold after; simp; omega⟩
        have h1h := Lib.hid h1
        clear h1
        have hzb : ((z - 1) == 0) = false := by rw [beq_eq_false_iff_ne]; omega
        go_enter Try.func37, Try.ntmps37
        go_wp2
        go_ret
        have c := ((Chg.refl (fun k => k = p) w).set 4 (.int .i64 (z - 1))).set 3 (.bool false)
        exact ⟨by rw [hf.out.1]; rfl, c, by rw [hf.out.2]; exact ⟨gk, _, _, (z - 1), hdr_set3 (hdr_set4 h1h.out), h2, (h3.own h1h.out c).to rfl rfl rfl, by simp <;> omega, by omega, by omega, by rw [← hf.out.2]; exact hok2⟩⟩
    | cons x plan =>
      have hsl := h3.plan.sl
      obtain ⟨a', cap', e, hsl⟩ := hsl
      cases e
      obtain ⟨gd, od, rfl, cd⟩ := hsl.cells 0 x rfl
      have hcl := hsl.le
      have hcm := hsl.capm
      unfold maxLen at hcm
      have hgp : gd ≠ p := by
        rcases h3.plan with ⟨h, _⟩ | ⟨g, o, cap2, cur, e, _, hh, _⟩
        · cases h
        · cases e
          exact apart hh h1 (by decide)
      unfold bv at cd
      simp only [Nat.add_zero] at cd
      simp only [List.length_cons] at c2 hcl
      have hgp1 : ¬ gd = p := hgp
      have hgp2 : ¬ p = gd := fun h => hgp h.symm
      have hpl := Lib.hid h3.plan
      clear hsl hgp
      have hq1 : (((plan.length + 1 : Nat) : Int) == 0) = false := by rw [beq_eq_false_iff_ne]; omega
      have hq2 : ((plan.length : Int) + 1 == 0) = false := by rw [beq_eq_false_iff_ne]; omega
      rcases hg2 with ⟨rfl, hz⟩ | ⟨rfl, rfl⟩ | ⟨hl, hz⟩
      · have hf : RowKit.Hid (fl ⟨K, st, x :: plan, false, 0⟩ = x ∧ after ⟨K, st, x :: plan, false, 0⟩ = ⟨K, st, plan, false, 0⟩) := Lib.hid ⟨rfl, rfl⟩
        have h1h := Lib.hid h1
        clear h1
        go_enter Try.func37, Try.ntmps37
        go_wp2
        all_goals
          go_ret
          have ht := hpl.out.tail
          first | simp [sliced, ‹cap = 1›, Addr.add_lit] at ht | simp [sliced, ‹¬cap = 1›, Addr.add_lit] at ht
          refine ⟨by rw [hf.out.1]; rfl, (Chg.refl (fun k => k = p) w).set 2 _, ?_⟩
          rw [hf.out.2]
          exact ⟨gk, _, _, z, hdr_set2 h1h.out, h2, (Parts.planned h3 ht (d' := ⟨K, st, plan, false, 0⟩) rfl rfl rfl).own h1h.out ((Chg.refl (fun k => k = p) w).set 2 _), by simp <;> omega, by omega, by omega, by rw [← hf.out.2]; exact hok2⟩
      · have hf : RowKit.Hid (fl ⟨K, st, x :: plan, false, 1⟩ = x ∧ after ⟨K, st, x :: plan, false, 1⟩ = ⟨K, st, plan, true, 0⟩) := Lib.hid ⟨rfl, rfl⟩
        have h1h := Lib.hid h1
        clear h1
        go_enter Try.func37, Try.ntmps37
        go_wp2
        all_goals
          go_ret
          have ht := hpl.out.tail
          first | simp [sliced, ‹cap = 1›, Addr.add_lit] at ht | simp [sliced, ‹¬cap = 1›, Addr.add_lit] at ht
          refine ⟨by rw [hf.out.1]; rfl, (((Chg.refl (fun k => k = p) w).set 4 (.int .i64 0)).set 3 (.bool true)).set 2 _, ?_⟩
          rw [hf.out.2]
          exact ⟨gk, _, _, 0, hdr_set2 (hdr_set3 (hdr_set4 h1h.out)), h2, (Parts.planned h3 ht (d' := ⟨K, st, plan, true, 0⟩) rfl rfl rfl).own h1h.out ((((Chg.refl (fun k => k = p) w).set 4 (.int .i64 0)).set 3 (.bool true)).set 2 _), by simp <;> omega, by omega, by omega, by rw [← hf.out.2]; exact hok2⟩
      · have hf : RowKit.Hid (fl ⟨K, st, x :: plan, false, left⟩ = x ∧ after ⟨K, st, x :: plan, false, left⟩ = ⟨K, st, plan, false, left - 1⟩) := Lib.hid ⟨rfl, by unfold after; simp; omega⟩
        have h1h := Lib.hid h1
        clear h1
        have hzb : ((z - 1) == 0) = false := by rw [beq_eq_false_iff_ne]; omega
        go_enter Try.func37, Try.ntmps37
        go_wp2
        all_goals
          go_ret
          have ht := hpl.out.tail
          first | simp [sliced, ‹cap = 1›, Addr.add_lit] at ht | simp [sliced, ‹¬cap = 1›, Addr.add_lit] at ht
          refine ⟨by rw [hf.out.1]; rfl, (((Chg.refl (fun k => k = p) w).set 4 (.int .i64 (z - 1))).set 3 (.bool false)).set 2 _, ?_⟩
          rw [hf.out.2]
          exact ⟨gk, _, _, (z - 1), hdr_set2 (hdr_set3 (hdr_set4 h1h.out)), h2, (Parts.planned h3 ht (d' := ⟨K, st, plan, false, left - 1⟩) rfl rfl rfl).own h1h.out ((((Chg.refl (fun k => k = p) w).set 4 (.int .i64 (z - 1))).set 3 (.bool false)).set 2 _), by simp <;> omega, by omega, by omega, by rw [← hf.out.2]; exact hok2⟩
  · have hf : RowKit.Hid (fl ⟨K, st, plan, true, left⟩ = true ∧ after ⟨K, st, plan, true, left⟩ = ⟨K, st, plan, true, left⟩) := Lib.hid ⟨rfl, rfl⟩
    obtain ⟨c0, c1, c2, c3, c4, ff⟩ := hdr_cells h1
    clear h1
    go_enter Try.func37, Try.ntmps37
    go_wp2
    go_ret
    exact ⟨by rw [hf.out.1]; rfl, Chg.refl _ _, by rw [hf.out.2]; exact hD⟩
end Go.Proofs.Ytehgdoceaeammaa
