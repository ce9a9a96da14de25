/- Both disks, side by side: one thing that is done. -/
import Derived.Test.YtehgdoceaeammaaRDisk5
import Derived.Test.YtehgdoceaeammaaDiskQ
namespace Go.Proofs.Ytehgdoceaeammaa
open Go.RowKit Dk

theorem grow_le {F : Nat → Prop} {w w' : World} (h : w.heap.size ≤ w'.heap.size) : ∀ k, grow F w' k → grow F w k := fun k hk => hk.elim .inl fun h2 => .inr (Nat.le_trans h h2)
theorem do_cases (x : Dop) (d : D) : (x.what = 1 ∧ doE x d = wrE x.place x.bs d ∧ doB x d = wrB x.place x.bs d) ∨ (x.what = 2 ∧ doE x d = syncE d ∧ doB x d = sync d) ∨ (x.what = 3 ∧ doE x d = 0 ∧ doB x d = drop d) ∨ (x.what = 4 ∧ doE x d = 0 ∧ doB x d = crash x.bs d) ∨
    (x.what = 5 ∧ doE x d = 0 ∧ doB x d = faults x.ps d) ∨ (x.what = 6 ∧ doE x d = 0 ∧ doB x d = stop x.place d) ∨ ((x.what == 1) = false ∧ (x.what == 2) = false ∧ (x.what == 3) = false ∧ (x.what == 4) = false ∧ (x.what == 5) = false ∧ (x.what == 6) = false ∧ doE x d = 0 ∧ doB x d = d) := by
  unfold doE doB
  by_cases q1 : x.what = 1
  · left; simp [q1]
  by_cases q2 : x.what = 2
  · right; left; simp [q2]
  by_cases q3 : x.what = 3
  · right; right; left; simp [q3]
  by_cases q4 : x.what = 4
  · right; right; right; left; simp [q4]
  by_cases q5 : x.what = 5
  · right; right; right; right; left; simp [q5]
  by_cases q6 : x.what = 6
  · right; right; right; right; right; left; simp [q6]
  · right; right; right; right; right; right; simp [q1, q2, q3, q4, q5, q6]
attribute [local irreducible] wrB wrE sync syncE drop crash faults stop doE doB
set_option maxRecDepth 20000 in
set_option maxHeartbeats 2000000 in
theorem do_F {w : World} {F : Nat → Prop} {p : Nat} {d : D} (h : Disk w F p d) (hst : d.st.length ≤ 1048576) (x : Dop) (vb vp : Value) (hb : ∀ w', Chg F w w' → Bytes w' vb x.bs) (hp : Sl bv w vp x.ps) (hpl : x.ps.length ≤ 1048576) (r1 : -9223372036854775808 ≤ x.place) (r2 : x.place ≤ 9223372036854775807) :
    Calls Try.prog 27 #[.pointer (some ⟨p, 0, none⟩), .agg #[.int .i64 x.what, .int .i64 x.place, vb, vp]] w fun e w' => e = .returned (.int .i64 (doE x d)) ∧ Chg F w w' ∧ Disk w' (grow F w) p (doB x d) := by
  have hc := do_cases x d
  have hFp : F p := by obtain ⟨gk, s, v, z, h1, h2, r⟩ := h; exact h2
  generalize doE x d = E1 at *
  generalize doB x d = B1 at *
  obtain ⟨n, i, b, ps⟩ := x
  simp only at hc hb hp hpl r1 r2 ⊢
  have eA := (Ext.refl w).alloc (.cells #[.int .i64 n, .int .i64 i, vb, vp] 49)
  have cA : Chg F w (w.alloc (.cells #[.int .i64 n, .int .i64 i, vb, vp] 49)) := Chg.of_ext eA
  have hA := h.ext eA
  have hpA := hp.ext eA
  have hbA : ∀ w', Chg F (w.alloc (.cells #[.int .i64 n, .int .i64 i, vb, vp] 49)) w' → Bytes w' vb b := fun w' c => hb w' (cA.trans c)
  have hsz := eA.size
  have hg := grow_le (F := F) hsz
  have hW := write_any hA hst i vb b hbA
  have hS := sync_any hA
  have hD := drop_any hA
  have hC := crash_any hA vb b hbA
  have hF := faults_any hA vp ps hpl hpA
  have hT := stop_any hA i r1 r2
  have cAh := Lib.hid cA
  have hAh := Lib.hid hA
  have hgh := Lib.hid hg
  clear hp hb hpA hbA cA hA hg h eA
  rcases hc with ⟨rfl, e1, e2⟩ | ⟨rfl, e1, e2⟩ | ⟨rfl, e1, e2⟩ | ⟨rfl, e1, e2⟩ | ⟨rfl, e1, e2⟩ | ⟨rfl, e1, e2⟩ | ⟨p1, p2, p3, p4, p5, p6, e1, e2⟩
  all_goals
    have e1h := Lib.hid e1
    have e2h := Lib.hid e2
    clear e1 e2
  · go_enter Try.func27, Try.ntmps27
    go_wp2_with (go_at_call 11; refine hW.mono ?_; rintro e w1 ⟨rfl, h1, h2⟩)
    go_ret
    exact ⟨by rw [e1h.out]; rfl, cAh.out.trans h1, by rw [e2h.out]; exact h2.mono hgh.out⟩
  · go_enter Try.func27, Try.ntmps27
    go_wp2_with (go_at_call 13; refine hS.mono ?_; rintro e w1 ⟨rfl, h1, h2⟩)
    go_ret
    exact ⟨by rw [e1h.out]; rfl, cAh.out.trans h1, by rw [e2h.out]; exact h2.mono fun _ => Or.inl⟩
  · go_enter Try.func27, Try.ntmps27
    go_wp2_with (go_at_call 18; refine hD.mono ?_; rintro e w1 ⟨rfl, h1, h2⟩)
    go_ret
    exact ⟨by rw [e1h.out]; rfl, cAh.out.trans (h1.mono fun k hk => by rw [hk]; exact hFp), by rw [e2h.out]; exact h2.mono fun _ => Or.inl⟩
  · go_enter Try.func27, Try.ntmps27
    go_wp2_with (go_at_call 28; refine hC.mono ?_; rintro e w1 ⟨rfl, h1, h2⟩)
    go_ret
    exact ⟨by rw [e1h.out]; rfl, cAh.out.trans h1, by rw [e2h.out]; exact h2.mono fun _ => Or.inl⟩
  · go_enter Try.func27, Try.ntmps27
    go_wp2_with (go_at_call 21; refine hF.mono ?_; rintro e w1 ⟨rfl, h1, h2⟩)
    go_ret
    exact ⟨by rw [e1h.out]; rfl, cAh.out.trans h1, by rw [e2h.out]; exact h2.mono hgh.out⟩
  · go_enter Try.func27, Try.ntmps27
    go_wp2_with (go_at_call 19; refine hT.mono ?_; rintro e w1 ⟨rfl, h1, h2⟩)
    go_ret
    exact ⟨by rw [e1h.out]; rfl, cAh.out.trans (h1.mono fun k hk => by rw [hk]; exact hFp), by rw [e2h.out]; exact h2.mono fun _ => Or.inl⟩
  · go_enter Try.func27, Try.ntmps27
    go_wp2
    go_ret
    exact ⟨by rw [e1h.out]; rfl, cAh.out, by rw [e2h.out]; exact hAh.out.mono fun _ => Or.inl⟩
/-- both disks, and what each may have -/
structure Pr (w0 w : World) (F1 F2 : Nat → Prop) (p q : Nat) (d d' : D) : Prop where
  e : Ext w0 w
  a : Disk w F1 p d
  b : RDisk w F2 q d'
  a1 : ∀ k, F1 k → w0.heap.size ≤ k ∧ k < w.heap.size
  b1 : ∀ k, F2 k → w0.heap.size ≤ k ∧ k < w.heap.size
  ab : ∀ k, F1 k → ¬ F2 k
theorem Pr.ext {w0 w w' : World} {F1 F2 : Nat → Prop} {p q : Nat} {d d' : D} (h : Pr w0 w F1 F2 p q d d') (e : Ext w w') : Pr w0 w' F1 F2 p q d d' :=
  ⟨h.e.trans e, h.a.ext e, h.b.ext e, fun k hk => ⟨(h.a1 k hk).1, Nat.lt_of_lt_of_le (h.a1 k hk).2 e.size⟩, fun k hk => ⟨(h.b1 k hk).1, Nat.lt_of_lt_of_le (h.b1 k hk).2 e.size⟩, h.ab⟩
theorem Pr.one {w0 w w' : World} {F1 F2 : Nat → Prop} {p q : Nat} {d d' d2 : D} (h : Pr w0 w F1 F2 p q d d') (c : Chg F1 w w') (g : Disk w' (grow F1 w) p d2) : Pr w0 w' (fun k => grow F1 w k ∧ k < w'.heap.size) F2 p q d2 d' :=
  ⟨h.e.chg c fun k hk => (h.a1 k hk).1, g.bound, h.b.chg c fun k h2 h1 => h.ab k h1 h2, fun k hk => ⟨hk.1.elim (fun h1 => (h.a1 k h1).1) (fun h1 => Nat.le_trans h.e.size h1), hk.2⟩,
    fun k hk => ⟨(h.b1 k hk).1, Nat.lt_of_lt_of_le (h.b1 k hk).2 c.size⟩, fun k hk h2 => hk.1.elim (fun h1 => h.ab k h1 h2) (fun h1 => by have := (h.b1 k h2).2; omega)⟩
theorem Pr.two {w0 w w' : World} {F1 F2 : Nat → Prop} {p q : Nat} {d d' d2 : D} (h : Pr w0 w F1 F2 p q d d') (c : Chg F2 w w') (g : RDisk w' (grow F2 w) q d2) : Pr w0 w' F1 (fun k => grow F2 w k ∧ k < w'.heap.size) p q d d2 :=
  ⟨h.e.chg c fun k hk => (h.b1 k hk).1, h.a.chg c fun k h1 h2 => h.ab k h1 h2, g.bound, fun k hk => ⟨(h.a1 k hk).1, Nat.lt_of_lt_of_le (h.a1 k hk).2 c.size⟩,
    fun k hk => ⟨hk.1.elim (fun h1 => (h.b1 k h1).1) (fun h1 => Nat.le_trans h.e.size h1), hk.2⟩, fun k hk h2 => h2.1.elim (fun h1 => h.ab k hk h1) (fun h1 => by have := (h.a1 k hk).2; omega)⟩
end Go.Proofs.Ytehgdoceaeammaa
