/- DiskFails, walked. -/
import Derived.Test.YtehgdoceaeammaaDiskR
namespace Go.Proofs.Ytehgdoceaeammaa
open Go.RowKit Dk

theorem off_plain {d : D} (i : Int) (b : List UInt8) (h : d.off = true) : (drop (sync d)).st = d.st ∧ (wrE i b (drop (sync d)) != 0) = true ∧ (wrB i b (drop (sync d))).off = true := by
  have hf : fl d = true := by unfold fl; rw [h]; rfl
  have ha : after d = d := by unfold after; rw [if_pos h]
  have hs : sync d = d := by unfold sync; rw [if_pos hf, ha]
  have hd : drop d = d := by unfold drop; rw [if_pos h]
  rw [hs, hd]
  refine ⟨rfl, ?_, ?_⟩
  · unfold wrE
    rw [hf]
    split
    · rfl
    · split <;> rfl
  · unfold wrB
    rw [hf, ha]
    split
    · exact h
    · split
      · exact h
      · exact h
theorem fails_plain {d : D} (i : Int) (b : List UInt8) (h : d.off = false) (hb : b.length ≤ 32) :
    ∃ d1 d2 d3 : D, stop (-1) d = d1 ∧ d1.kept = d.kept ∧ d1.st = d.st ∧ faults [true, true, false] d1 = d2 ∧ d2.n = d.n ∧ syncE d2 = 21 ∧ sync d2 = d3 ∧ d3.st = d.st ∧ d3.kept = d.kept ∧
      (has d i = false → wrE i b d3 = 4 ∧ wrB i b d3 = d3) ∧
      (has d i = true → wrE i b d3 = 21 ∧ (wrB i b d3).st = d.st ∧ (wrB i b d3).kept = d.kept ∧ wrE i b (wrB i b d3) = 0 ∧ (wrB i b (wrB i b d3)).st.length = d.st.length + 1 ∧ (wrB i b (wrB i b d3)).kept = d.kept) := by
  obtain ⟨K, st, plan, off, left⟩ := d
  simp only at h
  subst h
  refine ⟨⟨K, st, plan, false, 0⟩, ⟨K, st, [true, true, false], false, 0⟩, ⟨K, st, [true, false], false, 0⟩, rfl, rfl, rfl, rfl, rfl, rfl, rfl, rfl, rfl, ?_, ?_⟩
  · intro hh
    have h3 : has ⟨K, st, [true, false], false, 0⟩ i = false := hh
    unfold wrE wrB
    rw [h3]
    exact ⟨rfl, rfl⟩
  · intro hh
    have h3 : has ⟨K, st, [true, false], false, 0⟩ i = true := hh
    have h4 : has ⟨K, st, [false], false, 0⟩ i = true := hh
    have e1 : wrB i b ⟨K, st, [true, false], false, 0⟩ = ⟨K, st, [false], false, 0⟩ := by
      unfold wrB
      rw [h3, if_neg (by decide), if_neg (by omega)]
      rfl
    have e2 : wrB i b ⟨K, st, [false], false, 0⟩ = ⟨K, st ++ [(i.toNat, pad b)], [], false, 0⟩ := by
      unfold wrB
      rw [h4, if_neg (by decide), if_neg (by omega)]
      rfl
    rw [e1, e2]
    refine ⟨?_, rfl, rfl, ?_, by simp, rfl⟩
    · unfold wrE
      rw [h3, if_neg (by decide), if_neg (by omega)]
      rfl
    · unfold wrE
      rw [h4, if_neg (by decide), if_neg (by omega)]
      rfl
attribute [local irreducible] wrB wrE mk sync syncE drop crash faults stop beh
set_option maxRecDepth 20000 in
set_option maxHeartbeats 4000000 in
theorem diskFails_any (n : Int) (vl : Value) (l : List Dop) (i : Int) (vb : Value) (b : List UInt8) (w : World) (_ : -9223372036854775808 ≤ n) (_ : n ≤ 9223372036854775807) (hl : Ops w vl l) (_ : -9223372036854775808 ≤ i) (_ : i ≤ 9223372036854775807) (hb : Bytes w vb b) :
    Calls Try.prog 4 #[.int .i64 n, vl, .int .i64 i, vb] w fun e w' => e = .returned (.bool true) ∧ Ext w w' := by
  have hl0 := hl
  obtain ⟨al, cl, rfl, -⟩ := hl
  have hb0 := hb
  obtain ⟨ab, cb, rfl, hb⟩ := hb
  clear hb
  go_enter Try.func4, Try.ntmps4
  go_upto_region 3 with (first
    | (go_at_call 9; refine (awake_any _).mono ?_; rintro e wA ⟨rfl, eA⟩)
    | (go_at_call 15; refine (few_any _ l _ (hl0.ext eA)).mono ?_; rintro e w' ⟨rfl, rfl⟩))
  by_cases hf : fewO l = true
  · rw [hf]
    by_cases hn : n ≤ 40
    · have dn : decide ((40 : Int) < n) = false := by rw [decide_eq_false_iff_not]; omega
      by_cases h32 : b.length ≤ 32
      · have d32 : decide ((32 : Int) < (b.length : Int)) = false := by rw [decide_eq_false_iff_not]; omega
        have hB := behind_any n _ l eA hl0 hf
        have hst := beh_len n l
        have hl40 := (few_facts hf).1
        go_upto_region 8 with (go_at_call 16; refine hB.mono ?_; rintro e w1 ⟨v1, rfl, p, rfl, h1⟩)
        clear hB
        generalize beh n l = d at *
        by_cases hoff : d.off = true
        · obtain ⟨q1, q2, q3⟩ := off_plain i b hoff
          have hO := on_any h1.2
          rw [hoff] at hO
          have hS := sync_n h1
          have hD := fun W (h : DiskN w W p (sync d)) => drop_n (w := W) h
          have hW := fun W (h : DiskN w W p (drop (sync d))) => write_n (w := W) h (by rw [q1]; omega : (drop (sync d)).st.length ≤ 1048576) i _ b hb0
          go_upto_region 10 with (first
            | (go_at_call 17; refine hO.mono ?_; rintro e w' ⟨rfl, rfl⟩)
            | (go_at_call 13; refine hS.mono ?_; rintro e w2 ⟨rfl, h2⟩))
          go_upto_region 11 with (go_at_call 18; refine (hD _ h2).mono ?_; rintro e w3 ⟨rfl, h3⟩)
          have hW3 := hW _ h3
          clear hS hD hW hO h1 h2
          generalize wrE i b (drop (sync d)) = e4 at *
          go_wp2_with (first
            | (go_at_call 11; refine hW3.mono ?_; rintro e w4 ⟨rfl, h4⟩)
            | (go_at_call 17; refine (on_any h4.2).mono ?_; rintro e w' ⟨rfl, rfl⟩; simp only [q3]))
          go_ret
          exact ⟨rfl, h4.1⟩
        · have hoff' : d.off = false := by simpa using hoff
          clear hoff
          obtain ⟨d1, d2, d3, q1, q2, q3, q4, q5, q6, q7, q8, q9, q10, q11⟩ := fails_plain i b hoff' h32
          have hO := on_any h1.2
          rw [hoff'] at hO
          have hT := stop_n h1 (-1) (by omega) (by omega)
          rw [q1] at hT
          clear h1
          go_upto_region 13 with (first
            | (go_at_call 17; refine hO.mono ?_; rintro e w' ⟨rfl, rfl⟩)
            | (go_at_call 19; refine hT.mono ?_; rintro e w2 ⟨rfl, h2⟩))
          have hBy := bytes_own h2.2
          rw [q2] at hBy
          clear hO hT
          go_upto_region 14 with (go_at_call 20; refine hBy.mono ?_; rintro e w3 ⟨v3, rfl, hv3, e3⟩)
          have h3 := h2.but e3
          have e03 := h2.1.trans e3
          have hstay := stay_own hv3 (but_not (a := w) (b := w2) (c := w3))
          have hbs := stay_old (F := but w w2 w3) hb0 e03 (but_le e03)
          have hle := but_le (b := w2) e03
          obtain ⟨a3, c3, rfl, -⟩ := hv3.bytes
          have hSt := staged_any h3.disk
          rw [q3] at hSt
          clear hBy h2 hv3 e3
          generalize but w w2 w3 = F at *
          go_upto_region 15 with (go_at_call 12; refine hSt.mono ?_; rintro e w' ⟨rfl, rfl⟩)
          have e4 := (Ext.refl w3).alloc (.cells #[.bool true, .bool true, .bool false] 4)
          have hsl : Sl bv (w3.alloc (.cells #[.bool true, .bool true, .bool false] 4)) (.slice (some ⟨w3.heap.size, 0, none⟩) 3 3) [true, true, false] := Sl.lit rfl rfl rfl (Nat.le_refl _) (by decide)
          have hF := faults_g (h3.ext e4) _ [true, true, false] (by decide) hsl
          rw [q4] at hF
          clear hSt
          go_upto_region 16 with (go_at_call 21; refine hF.mono ?_; rintro e w5 ⟨rfl, c5, h5⟩)
          have c35 := (Chg.of_ext (p := F) e4).trans c5
          clear hF hsl e4 c5 h3
          have hSame : ∀ W v8, Bytes W v8 d.kept → Bytes W (.slice a3 d.kept.length c3) d.kept → Calls Try.prog 23 #[v8, .slice a3 d.kept.length c3] W fun e w' => e = .returned (.bool true) ∧ W = w' := fun W v8 g1 g2 => by
            have := same_any v8 (.slice a3 d.kept.length c3) d.kept d.kept W g1 g2
            rw [seq_self] at this
            exact this
          have hLe := len_any h5.disk
          rw [q5] at hLe
          have hS := sync_g h5
          rw [q6, q7] at hS
          have hcase : (decide (0 ≤ i) = true ∧ decide (i < (d.n : Int)) = true ∧ has d i = true) ∨ (decide (0 ≤ i) = true ∧ decide (i < (d.n : Int)) = false ∧ has d i = false) ∨ (decide (0 ≤ i) = false ∧ decide (i < (d.n : Int)) = decide (i < (d.n : Int)) ∧ has d i = false) := by
            unfold has
            cases decide (0 ≤ i) <;> cases decide (i < (d.n : Int)) <;> simp
          have hst3 : d3.st.length ≤ 1048576 := by rw [q8]; omega
          have hW := fun W (h : DiskG F W p d3) (hc : Chg F w3 W) => write_g h hst3 i _ b (hbs.chg hc)
          clear q1 q2 q3 q4 q5 q6 q7 h5
          have hgo : has d i = true → ∀ W, Chg F w3 W → DiskG F W p (wrB i b d3) → True := fun _ _ _ _ => trivial
          clear hgo
          rcases hcase with ⟨i1, i2, i3⟩ | hcase
          · obtain ⟨t1, t2, t3, t4, t5, t6⟩ := q11 i3
            have hst4 : (wrB i b d3).st.length ≤ 1048576 := by rw [t2]; omega
            have hW2 := fun W (h : DiskG F W p (wrB i b d3)) (hc : Chg F w3 W) => write_g h hst4 i _ b (hbs.chg hc)
            rw [t1] at hW
            rw [t4] at hW2
            generalize wrB i b d3 = d4 at *
            generalize wrB i b d4 = d5 at *
            clear q10 q11 q8 q9 t1 t4 i3 hst3 hst4
            go_upto_region 18 with (first
              | (go_at_call 22; refine hLe.mono ?_; rintro e w' ⟨rfl, rfl⟩)
              | (go_at_call 13; refine hS.mono ?_; rintro e w6 ⟨rfl, c6, h6⟩))
            have c36 := c35.trans c6
            clear hLe hS
            go_upto_region 19 with (go_at_call 11; refine (hW _ h6 c36).mono ?_; rintro e w7 ⟨rfl, c7, h7⟩)
            have c37 := c36.trans c7
            have hSt := staged_any h7.disk
            rw [t2] at hSt
            have hBy := bytes_any h7.disk
            rw [t3] at hBy
            clear hW c35 c36 c6 c7 h6
            go_upto_region 23 with (first
              | (go_at_call 12; refine hSt.mono ?_; rintro e w' ⟨rfl, rfl⟩)
              | (go_at_call 20; refine hBy.mono ?_; rintro e w8 ⟨v8, rfl, h8, e8⟩)
              | (go_at_call 23; refine (hSame _ _ h8 ((hstay.chg c37).now.ext e8)).mono ?_; rintro e w' ⟨rfl, rfl⟩))
            have c38 := c37.ext e8
            have h9 := h7.ext e8
            clear hSt hBy h7 c37 h8 e8
            go_upto_region 24 with (go_at_call 11; refine (hW2 _ h9 c38).mono ?_; rintro e w9 ⟨rfl, c9, h10⟩)
            have c39 := c38.trans c9
            have hSt := staged_any h10.disk
            rw [t5] at hSt
            have hBy := bytes_any h10.disk
            rw [t6] at hBy
            clear hW2 c38 c9 h9
            go_wp2_with (first
              | (go_at_call 12; refine hSt.mono ?_; rintro e w' ⟨rfl, rfl⟩)
              | (go_at_call 20; refine hBy.mono ?_; rintro e w10 ⟨v10, rfl, h11, e10⟩)
              | (go_at_call 23; refine (hSame _ _ h11 ((hstay.chg c39).now.ext e10)).mono ?_; rintro e w' ⟨rfl, rfl⟩))
            go_ret
            exact ⟨rfl, (e03.chg c39 hle).trans e10⟩
          · have i3 : has d i = false := hcase.elim (fun h => h.2.2) fun h => h.2.2
            obtain ⟨t1, t2⟩ := q10 i3
            rw [t1, t2] at hW
            rcases hcase with ⟨i1, i2, -⟩ | ⟨i1, i2, -⟩
            all_goals
              clear q10 q11 t1 t2 i3
              go_upto_region 18 with (first
                | (go_at_call 22; refine hLe.mono ?_; rintro e w' ⟨rfl, rfl⟩)
                | (go_at_call 13; refine hS.mono ?_; rintro e w6 ⟨rfl, c6, h6⟩))
              have c36 := c35.trans c6
              clear hLe hS
              go_upto_region 19 with (go_at_call 11; refine (hW _ h6 c36).mono ?_; rintro e w7 ⟨rfl, c7, h7⟩)
              have c37 := c36.trans c7
              have hSt := staged_any h7.disk
              rw [q8] at hSt
              have hBy := bytes_any h7.disk
              rw [q9] at hBy
              clear hW c35 c36 c6 c7 h6
              go_wp2_with (first
                | (go_at_call 12; refine hSt.mono ?_; rintro e w' ⟨rfl, rfl⟩)
                | (go_at_call 20; refine hBy.mono ?_; rintro e w8 ⟨v8, rfl, h8, e8⟩)
                | (go_at_call 23; refine (hSame _ _ h8 ((hstay.chg c37).now.ext e8)).mono ?_; rintro e w' ⟨rfl, rfl⟩))
              go_ret
              exact ⟨rfl, (e03.chg c37 hle).trans e8⟩
      · have d32 : decide ((32 : Int) < (b.length : Int)) = true := by rw [decide_eq_true_iff]; omega
        go_wp2
        go_ret
        exact ⟨rfl, eA⟩
    · have dn : decide ((40 : Int) < n) = true := by rw [decide_eq_true_iff]; omega
      go_wp2
      go_ret
      exact ⟨rfl, eA⟩
  · have hf' : fewO l = false := by simpa using hf
    rw [hf']
    go_wp2
    go_ret
    exact ⟨rfl, eA⟩
end Go.Proofs.Ytehgdoceaeammaa
