/- One of the things that are done. -/
import Derived.Test.YtehgdoceaeammaaDiskL
namespace Go.Proofs.Ytehgdoceaeammaa
open Go.RowKit Dk

def doE (x : Dop) (d : D) : Int := if x.what = 1 then wrE x.place x.bs d else if x.what = 2 then syncE d else 0
def doB (x : Dop) (d : D) : D := if x.what = 1 then wrB x.place x.bs d else if x.what = 2 then sync d else if x.what = 3 then drop d else if x.what = 4 then crash x.bs d else if x.what = 5 then faults x.ps d else if x.what = 6 then stop x.place d else d
attribute [local irreducible] wrB wrE sync syncE drop crash faults stop
set_option maxRecDepth 20000 in
set_option maxHeartbeats 2000000 in
theorem do_any {w0 w : World} {p : Nat} {d : D} (h : DiskN w0 w p d) (hst : d.st.length ≤ 1048576) (x : Dop) (vb vp : Value) (hb : Bytes w0 vb x.bs) (hp : Sl bv w vp x.ps) (hpl : x.ps.length ≤ 1048576) (r1 : -9223372036854775808 ≤ x.place) (r2 : x.place ≤ 9223372036854775807) :
    Calls Try.prog 27 #[.pointer (some ⟨p, 0, none⟩), .agg #[.int .i64 x.what, .int .i64 x.place, vb, vp]] w fun e w' => e = .returned (.int .i64 (doE x d)) ∧ DiskN w0 w' p (doB x d) := by
  have hE : RowKit.Hid (doE x d = if x.what = 1 then wrE x.place x.bs d else if x.what = 2 then syncE d else 0) := Lib.hid rfl
  have hB : RowKit.Hid (doB x d = if x.what = 1 then wrB x.place x.bs d else if x.what = 2 then sync d else if x.what = 3 then drop d else if x.what = 4 then crash x.bs d else if x.what = 5 then faults x.ps d else if x.what = 6 then stop x.place d else d) := Lib.hid rfl
  generalize doE x d = E1 at *
  generalize doB x d = B1 at *
  obtain ⟨n, i, b, ps⟩ := x
  simp only at hE hB hb hp hpl r1 r2 ⊢
  have hA := h.ext ((Ext.refl w).alloc (.cells #[.int .i64 n, .int .i64 i, vb, vp] 49))
  have hpA := hp.ext ((Ext.refl w).alloc (.cells #[.int .i64 n, .int .i64 i, vb, vp] 49))
  have hW := write_n hA hst i vb b hb
  have hS := sync_n hA
  have hD := drop_n hA
  have hC := crash_n hA vb b hb
  have hF := faults_n hA vp ps hpl hpA
  have hT := stop_n hA i r1 r2
  clear hp hb
  go_enter Try.func27, Try.ntmps27
  by_cases q1 : n = 1
  · rw [if_pos q1] at hE hB
    subst q1
    go_wp2_with (go_at_call 11; refine hW.mono ?_; rintro e w1 ⟨rfl, h1⟩)
    go_ret
    exact ⟨by rw [hE.out]; rfl, by rw [hB.out]; exact h1⟩
  · rw [if_neg q1] at hE hB
    have p1 : (n == 1) = false := by rw [beq_eq_false_iff_ne]; exact q1
    by_cases q2 : n = 2
    · rw [if_pos q2] at hE hB
      subst q2
      go_wp2_with (go_at_call 13; refine hS.mono ?_; rintro e w1 ⟨rfl, h1⟩)
      go_ret
      exact ⟨by rw [hE.out]; rfl, by rw [hB.out]; exact h1⟩
    · rw [if_neg q2] at hE hB
      have p2 : (n == 2) = false := by rw [beq_eq_false_iff_ne]; exact q2
      by_cases q3 : n = 3
      · rw [if_pos q3] at hB
        subst q3
        go_wp2_with (go_at_call 18; refine hD.mono ?_; rintro e w1 ⟨rfl, h1⟩)
        go_ret
        exact ⟨by rw [hE.out]; rfl, by rw [hB.out]; exact h1⟩
      · rw [if_neg q3] at hB
        have p3 : (n == 3) = false := by rw [beq_eq_false_iff_ne]; exact q3
        by_cases q4 : n = 4
        · rw [if_pos q4] at hB
          subst q4
          go_wp2_with (go_at_call 28; refine hC.mono ?_; rintro e w1 ⟨rfl, h1⟩)
          go_ret
          exact ⟨by rw [hE.out]; rfl, by rw [hB.out]; exact h1⟩
        · rw [if_neg q4] at hB
          have p4 : (n == 4) = false := by rw [beq_eq_false_iff_ne]; exact q4
          by_cases q5 : n = 5
          · rw [if_pos q5] at hB
            subst q5
            go_wp2_with (go_at_call 21; refine hF.mono ?_; rintro e w1 ⟨rfl, h1⟩)
            go_ret
            exact ⟨by rw [hE.out]; rfl, by rw [hB.out]; exact h1⟩
          · rw [if_neg q5] at hB
            have p5 : (n == 5) = false := by rw [beq_eq_false_iff_ne]; exact q5
            by_cases q6 : n = 6
            · rw [if_pos q6] at hB
              subst q6
              go_wp2_with (go_at_call 19; refine hT.mono ?_; rintro e w1 ⟨rfl, h1⟩)
              go_ret
              exact ⟨by rw [hE.out]; rfl, by rw [hB.out]; exact h1⟩
            · rw [if_neg q6] at hB
              have p6 : (n == 6) = false := by rw [beq_eq_false_iff_ne]; exact q6
              go_wp2
              go_ret
              exact ⟨by rw [hE.out]; rfl, by rw [hB.out]; exact hA⟩
end Go.Proofs.Ytehgdoceaeammaa
