/- The document's disk: Read, Write. -/
import Derived.Test.YtehgdoceaeammaaRDisk3
namespace Go.Proofs.Ytehgdoceaeammaa
open Go.RowKit Dk

theorem RD.bytes {w : World} {F : Nat → Prop} {q gk : Nat} {vs vp : Value} {d : D} (h : RD w F q gk vs vp d) (ok : d.Ok) {i : Nat} (hi : i < d.n) (cap : Nat) (hcap : 32 ≤ cap) (hcm : cap ≤ maxLen) : Bytes w (.slice (some ⟨gk, 32 * i, none⟩) 32 cap) (blk d.kept i) := by
  obtain ⟨cur, h1, h2⟩ := h.kept
  have hb := blk_length ok.len hi
  refine Bytes.row hb.symm (by omega) hcm fun j hj => ?_
  rw [cell_of_row w gk _ cur _ _ h1, ← Array.getElem?_toList, h2, List.getElem?_map]
  have e := blk_get d.kept i j (by omega)
  rw [List.getElem?_eq_getElem hj] at e
  rw [← e]; rfl
set_option maxRecDepth 20000 in
set_option maxHeartbeats 1000000 in
theorem rread_any {w : World} {F : Nat → Prop} {q : Nat} {d : D} (h : RDisk w F q d) (i : Int) :
    Calls Try.prog 35 #[.pointer (some ⟨q, 0, none⟩), .int .i64 i] w (Ret fun v w' => Bytes w v (rdB i d) ∧ w = w') := by
  have hLe := rLen_any h
  obtain ⟨gk, vs, vp, h, ok⟩ := h
  have hlen := ok.len
  have hmost := ok.most
  by_cases h0 : i < 0
  · have hr : RowKit.Hid (rdB i d = []) := Lib.hid (by
      have : has d i = false := by unfold has; rw [decide_eq_false (by omega)]; rfl
      unfold rdB; rw [this]; rfl)
    have d0 : decide (i < 0) = true := by rw [decide_eq_true_iff]; exact h0
    go_enter Try.func35, Try.ntmps35
    go_wp2
    go_ret
    exact Ret.mk ⟨by rw [hr.out]; exact Bytes.nil _, rfl⟩
  have d0 : decide (i < 0) = false := by rw [decide_eq_false_iff_not]; exact h0
  by_cases h1 : (d.n : Int) ≤ i
  · have hr : RowKit.Hid (rdB i d = []) := Lib.hid (by
      have : has d i = false := by unfold has; rw [decide_eq_false (p := i < (d.n : Int)) (by omega)]; simp
      unfold rdB; rw [this]; rfl)
    have d1 : decide ((d.n : Int) ≤ i) = true := by rw [decide_eq_true_iff]; exact h1
    go_enter Try.func35, Try.ntmps35
    go_wp2_with (go_at_call 26; refine hLe.mono ?_; rintro e w' ⟨rfl, rfl⟩)
    go_ret
    exact Ret.mk ⟨by rw [hr.out]; exact Bytes.nil _, rfl⟩
  · have d1 : decide ((d.n : Int) ≤ i) = false := by rw [decide_eq_false_iff_not]; exact h1
    obtain ⟨i, rfl⟩ : ∃ k : Nat, i = k := ⟨i.toNat, by omega⟩
    have hi : i < d.n := by omega
    have hr : RowKit.Hid (rdB (i : Int) d = rd d.kept d.st i d.st.length) := Lib.hid (by
      have : has d (i : Int) = true := by unfold has; simp; exact hi
      unfold rdB; rw [this]; rfl)
    obtain ⟨c0, c1, -⟩ := rhd_cells h.hd
    obtain ⟨a, cap, rfl, hsm, hcap, hst⟩ := h.st.at_
    have hB0 := Lib.hid (h.bytes ok hi (d.kept.length - 32 * i) (by omega) (by unfold maxLen; omega))
    have hsth := Lib.hid hst
    have hath := Lib.hid ok.at_
    have t1 : IntKind.i64.wrap (32 * (i : Int)) = 32 * (i : Int) := by rw [IntKind.wrap_i64]; omega
    have t2 : IntKind.i64.wrap (32 * (i : Int) + 32) = 32 * (i : Int) + 32 := by rw [IntKind.wrap_i64]; omega
    have t3 : (0 : Int) ≤ 32 * (i : Int) := by omega
    have t4 : 32 * (i : Int) + 32 ≤ (d.kept.length : Int) := by omega
    have t5 : (32 * (i : Int)).toNat = 32 * i := by omega
    have t6 : (32 * (i : Int) + 32).toNat = 32 * i + 32 := by omega
    have t7 : 32 * i + 32 - 32 * i = 32 := by omega
    have t8 : ¬ d.kept.length = 32 * i := by omega
    have t9 : 32 * (i : Int) ≤ 32 * (i : Int) + 32 := by omega
    clear hst h ok hlen hmost h0 h1
    go_enter Try.func35, Try.ntmps35
    go_wp2_with (go_at_call 26; refine hLe.mono ?_; rintro e w' ⟨rfl, rfl⟩)
    clear hLe t1 t2 t3 t4 t5 t6 t8 t9
    go_loop [5, 6] (fun out j => ∃ k : Nat, k ≤ d.st.length ∧ j = .int .i64 (k : Int) ∧ RowKit.Hid (Bytes w out (rd d.kept d.st i k))) (fun _ j => d.st.length - (intOf j).toNat)
    case atStart => exact ⟨0, Nat.zero_le _, rfl, by first | exact hB0 | (rw [t7]; exact hB0)⟩
    case round =>
      obtain ⟨k, hk, rfl, hB⟩ := hrel
      by_cases hlt : k < d.st.length
      · obtain ⟨x, hx⟩ : ∃ x, d.st[k]? = some x := ⟨_, List.getElem?_eq_getElem hlt⟩
        have hxd : d.st.getD k (0, []) = x := by rw [List.getD_eq_getElem?_getD, hx]; rfl
        obtain ⟨g, u, rfl, hrg, hbu, -⟩ := hsth.out k x hx
        have hrd : RowKit.Hid (rd d.kept d.st i (k + 1) = if x.1 = i then x.2 else rd d.kept d.st i k) := Lib.hid (by rw [rd, hxd])
        have k1 := hrg 0 _ rfl
        have k2 := hrg 1 _ rfl
        have hki : (k : Int) < (d.st.length : Int) := by omega
        have hbuh := Lib.hid hbu
        obtain ⟨au, cu, rfl, -⟩ := hbu
        clear hx hxd hrg hB0
        rw [Nat.add_zero] at k1
        by_cases hxi : x.1 = i
        · have hq : ((x.1 : Int) == (i : Int)) = true := by rw [hxi]; simp
          go_wp2
          go_round
          case rel => exact ⟨k + 1, by omega, by go_num, Lib.hid (by rw [hrd.out, if_pos hxi]; exact hbuh.out)⟩
          case measure => simp [intOf]; omega
        · have hq : ((x.1 : Int) == (i : Int)) = false := by rw [beq_eq_false_iff_ne]; omega
          go_wp2
          go_round
          case rel => exact ⟨k + 1, by omega, by go_num, Lib.hid (by rw [hrd.out, if_neg hxi]; exact hB.out)⟩
          case measure => simp [intOf]; omega
      · obtain rfl : k = d.st.length := by omega
        go_wp2
        go_ret
        exact Ret.mk ⟨by rw [hr.out]; exact hB.out, rfl⟩
end Go.Proofs.Ytehgdoceaeammaa
