/- DiskOrder, walked. -/
import Derived.Test.YtehgdoceaeammaaDiskI
namespace Go.Proofs.Ytehgdoceaeammaa
open Go.RowKit Dk

theorem pad_eq (b : List UInt8) : ([] ++ b) ++ List.replicate (32 - b.length) 0 = pad b := rfl
attribute [local irreducible] wrB wrE mk sync syncE rdB pad
set_option maxRecDepth 20000 in
set_option maxHeartbeats 4000000 in
theorem diskOrder_any (x0 : UInt8) (i k : Int) (va : Value) (a : List UInt8) (vb : Value) (b : List UInt8) (vc : Value) (c : List UInt8) (w : World) (_ : -9223372036854775808 ≤ i) (_ : i ≤ 9223372036854775807) (_ : -9223372036854775808 ≤ k) (_ : k ≤ 9223372036854775807)
    (ha : Bytes w va a) (hb : Bytes w vb b) (hc : Bytes w vc c) :
    Calls Try.prog 3 #[.int .u8 (x0.toNat : Int), .int .i64 i, .int .i64 k, va, vb, vc] w fun e w' => e = .returned (.bool true) ∧ Ext w w' := by
  have e0 := Ext.refl w
  have ha0 := ha
  have hb0 := hb
  have hc0 := hc
  obtain ⟨aa, ca, rfl, ha⟩ := ha
  obtain ⟨ab, cb, rfl, hb⟩ := hb
  obtain ⟨ac, cc, rfl, hc⟩ := hc
  have hal := ha.len
  have hbl := hb.len
  have hcl := hc.len
  clear ha hb hc
  go_enter Try.func3, Try.ntmps3
  go_upto_region 3 with (first
    | (go_at_call 9; refine (awake_any _).mono ?_; rintro e wA ⟨rfl, eA⟩)
    | (go_at_call 10; refine (new_n _ eA).mono ?_; rintro e w1 ⟨v, rfl, p, rfl, h1⟩))
  generalize clamp _ = m at h1
  by_cases la : a.length ≤ 32
  · have da : decide ((32 : Int) < (a.length : Int)) = false := by rw [decide_eq_false_iff_not]; omega
    by_cases lb : b.length ≤ 32
    · have db : decide ((32 : Int) < (b.length : Int)) = false := by rw [decide_eq_false_iff_not]; omega
      by_cases lc : c.length ≤ 32
      · have dc : decide ((32 : Int) < (c.length : Int)) = false := by rw [decide_eq_false_iff_not]; omega
        have s0 : (mk m).st.length = 0 := by unfold mk; rfl
        have C0 := mk_calm m
        have C1 := wr_calm i a C0
        have C2 := wr_calm k c C1
        have s1 := wr_len i a C0
        have s2 := wr_len k c C1
        have s3 := wr_len i b C2
        have hop := order_plain (m := m) i k a b c
        have l1 : (wrB i a (mk m)).st.length ≤ 1 := by rw [s1, s0]; split <;> omega
        have l2 : (wrB k c (wrB i a (mk m))).st.length ≤ 2 := by rw [s2]; split <;> omega
        have hW2 := fun W (h : DiskN w W p _) => write_n (w := W) h (by omega : (wrB i a (mk m)).st.length ≤ 1048576) k _ c hc0
        have hW3 := fun W (h : DiskN w W p _) => write_n (w := W) h (by omega : (wrB k c (wrB i a (mk m))).st.length ≤ 1048576) i _ b hb0
        have hW1 := write_n h1 (by omega) i _ a ha0
        generalize he1 : wrE i a (mk m) = e1 at *
        generalize he2 : wrE k c (wrB i a (mk m)) = e2 at *
        generalize he3 : wrE i b (wrB k c (wrB i a (mk m))) = e3 at *
        generalize hd3 : wrB i b (wrB k c (wrB i a (mk m))) = d3 at *
        have s4 : d3.st.length < 3 ∨ (e1 = 0 ∧ e2 = 0 ∧ e3 = 0) := by
          by_cases q1 : e1 = 0
          · by_cases q2 : e2 = 0
            · by_cases q3 : e3 = 0
              · exact .inr ⟨q1, q2, q3⟩
              · left; rw [if_neg q3] at s3; omega
            · left; rw [if_neg q2] at s2; split at s3 <;> omega
          · left; rw [if_neg q1] at s1; split at s2 <;> split at s3 <;> omega
        clear s0 s1 s2 s3 l1 l2 he1 he2 he3 hd3 C0 C1 C2
        go_upto_region 6 with (go_at_call 11; refine hW1.mono ?_; rintro e w2 ⟨rfl, h2⟩)
        go_upto_region 7 with (go_at_call 11; refine (hW2 _ h2).mono ?_; rintro e w3 ⟨rfl, h3⟩)
        go_upto_region 8 with (go_at_call 11; refine (hW3 _ h3).mono ?_; rintro e w4 ⟨rfl, h4⟩)
        clear hW1 hW2 hW3 h1 h2 h3
        have hSt := staged_any h4.2
        have eW := h4.1
        by_cases hgood : e1 = 0 ∧ e2 = 0 ∧ e3 = 0
        · obtain ⟨rfl, rfl, rfl⟩ := hgood
          obtain ⟨p1, p2, p3, p4⟩ := hop rfl rfl rfl
          have hS := sync_n h4
          rw [p1] at hS
          have p4h := Lib.hid p4
          clear hop s4 p4 hSt h4 p1
          generalize sync d3 = d4 at *
          go_upto_region 11 with (go_at_call 13; refine hS.mono ?_; rintro e w5 ⟨rfl, h5⟩)
          have hR1 := read_any h5.2 i
          rw [p3] at hR1
          clear hS p3
          go_upto_region 12 with (go_at_call 14; refine hR1.mono ?_; rintro e w6 ⟨vx, rfl, hx, e6⟩)
          have h6 := h5.ext e6
          have hR2 := read_any h6.2 k
          clear hR1
          go_upto_region 13 with (go_at_call 14; refine hR2.mono ?_; rintro e w7 ⟨vy, rfl, hy, e7⟩)
          have h7 := h6.ext e7
          have hx7 := hx.ext e7
          have eW7 := h7.1
          have p2h := Lib.hid p2
          have hb7 := hb0.ext eW7
          have hc7 := hc0.ext eW7
          have hkb : (32 : Int) - (b.length : Int) = ((32 - b.length : Nat) : Int) := by omega
          have hkc : (32 : Int) - (c.length : Int) = ((32 - c.length : Nat) : Int) := by omega
          have o0 : OwnB (w7.alloc (.cells #[] 5)) w7.heap.size (.slice (some ⟨w7.heap.size, 0, none⟩) 0 0) [] := OwnB.empty rfl (Nat.le_refl _)
          have e7a := (Ext.refl w7).alloc (.cells #[] 5)
          clear hR2 h5 h6 hx p2
          go_upto_region 14 with (first
            | (at_builtin; refine wpList_appendB rfl _ _ rfl w7.heap.size _ [] rfl o0 _ b rfl (hb7.ext e7a) (by simp; omega) (e7a.size) ?_; intro v8 w8 g1 g2)
            | (refine wpList_appendZ rfl _ _ rfl w7.heap.size _ ([] ++ b) rfl g1 (32 - b.length) rfl (by simp; omega) (Nat.le_trans e7a.size g2.size) ?_; intro v9 w9 g3 g4))
          have e78 : Ext w7 w8 := Ext.own e7a o0 g2
          have e79 : Ext w7 w9 := Ext.own e78 g1 g4
          have hw9 : Bytes w9 v9 (pad b) := by rw [← pad_eq]; exact g3.bytes
          have o1 : OwnB (w9.alloc (.cells #[] 5)) w9.heap.size (.slice (some ⟨w9.heap.size, 0, none⟩) 0 0) [] := OwnB.empty rfl (Nat.le_refl _)
          have e9a := (Ext.refl w9).alloc (.cells #[] 5)
          have hc9 := hc7.ext e79
          clear g1 g2 g3 g4 o0 e7a
          go_upto_region 15 with (first
            | (at_builtin; refine wpList_appendB rfl _ _ rfl w9.heap.size _ [] rfl o1 _ c rfl (hc9.ext e9a) (by simp; omega) (e9a.size) ?_; intro v10 w10 g1 g2)
            | (refine wpList_appendZ rfl _ _ rfl w9.heap.size _ ([] ++ c) rfl g1 (32 - c.length) rfl (by simp; omega) (Nat.le_trans e9a.size g2.size) ?_; intro v11 w11 g3 g4))
          have e9b : Ext w9 w11 := Ext.own (Ext.own e9a o1 g2) g1 g4
          have ho11 : Bytes w11 v11 (pad c) := by rw [← pad_eq]; exact g3.bytes
          have e711 := e79.trans e9b
          have hx11 := hx7.ext e711
          have hy11 := hy.ext e711
          have hw11 := hw9.ext e9b
          have hSt := staged_any (h7.ext e711).2
          rw [p2h.out] at hSt
          have k1 := conv_bytes hx11
          have k2 := conv_bytes hw11
          have k3 := conv_bytes hy11
          have k4 := conv_bytes ho11
          have q1 := seq_self (pad b)
          have eW11 := eW7.trans e711
          obtain ⟨ax, cx, rfl, -⟩ := hx11
          obtain ⟨ay, cy, rfl, -⟩ := hy11
          obtain ⟨a9, c9, rfl, -⟩ := hw11
          obtain ⟨a11, c11, rfl, -⟩ := ho11
          clear g1 g2 g3 g4 o1 e9a hw9 hx7 hc9
          by_cases hik : i = k
          · have qik : (i == k) = true := by rw [hik]; simp
            go_wp2_with (go_at_call 12; refine hSt.mono ?_; rintro e w' ⟨rfl, rfl⟩)
            go_ret
            exact ⟨rfl, eW11⟩
          · have qik : (i == k) = false := by rw [beq_eq_false_iff_ne]; exact hik
            have q2 : seq (rdB k d4) (pad c) = true := by rw [p4h.out hik]; exact seq_self _
            go_wp2_with (go_at_call 12; refine hSt.mono ?_; rintro e w' ⟨rfl, rfl⟩)
            go_ret
            exact ⟨rfl, eW11⟩
        · have hcase : (e1 != 0) = true ∨ ((e1 != 0) = false ∧ (e2 != 0) = true) ∨ ((e1 != 0) = false ∧ (e2 != 0) = false ∧ (e3 != 0) = true) := by
            simp only [bne_iff_ne, bne_eq_false_iff_eq]; omega
          have hlt : (d3.st.length : Int) < 3 := by
            rcases s4 with h | h
            · omega
            · exact absurd h hgood
          clear hop s4 hgood
          rcases hcase with q1 | ⟨q1, q2⟩ | ⟨q1, q2, q3⟩
          all_goals
            go_wp2_with (go_at_call 12; refine hSt.mono ?_; rintro e w' ⟨rfl, rfl⟩)
            go_ret
            exact ⟨rfl, eW⟩
      · have dc : decide ((32 : Int) < (c.length : Int)) = true := by rw [decide_eq_true_iff]; omega
        go_wp2
        go_ret
        exact ⟨rfl, h1.1⟩
    · have db : decide ((32 : Int) < (b.length : Int)) = true := by rw [decide_eq_true_iff]; omega
      go_wp2
      go_ret
      exact ⟨rfl, h1.1⟩
  · have da : decide ((32 : Int) < (a.length : Int)) = true := by rw [decide_eq_true_iff]; omega
    go_wp2
    go_ret
    exact ⟨rfl, h1.1⟩
end Go.Proofs.Ytehgdoceaeammaa
