/- The document's log: lay. -/
import Derived.Test.YtmpjcnopakfdmaaDoorWlV
namespace Go.Proofs.YtmpjcnopakfdmaaDoor
set_option linter.unusedVariables false
set_option linter.unusedSimpArgs false
open Go.RowKit Dk Wl Fr

set_option maxRecDepth 20000 in
set_option maxHeartbeats 4000000 in
theorem rlogLay_any {w : World} {G : Nat → Prop} {q p : Nat} {h : H} {vl v : Value} {d : D} {a : Nat} {u : List UInt8} {fr : Nat} (l : RLogAt w q p h vl) (hD : RDisk w G p d) (hGs : ∀ k, G k → k < w.heap.size) (hnq : ¬ G q) (hok : d.Ok) (h4 : 4 ≤ d.n) (h512 : d.n ≤ 512) (hf : H.Fine ⟨h.gen + 1, a, u.length⟩) (hu : Bytes w v u) (hul : u.length ≤ 32 * areaN d.n) (hfr : fr ≤ u.length) (hst : d.st.length ≤ 100000) (hvG : ∀ k, vblk v = some k → u ≠ [] → ¬ G k) :
    Calls Tryd.prog 81 #[.pointer (some ⟨q, 0, none⟩), .int .i64 (a : Int), v, .int .i64 (fr : Int)] w fun e w' => ∃ d', e = .returned (.bool (run (calls (areaN d.n) ⟨h.gen + 1, a, u.length⟩ u (fr / 32)) d).1) ∧ Chg G w w' ∧ RDisk w' (grow G w) p d' ∧ ((run (calls (areaN d.n) ⟨h.gen + 1, a, u.length⟩ u (fr / 32)) d).1 = true → (run (calls (areaN d.n) ⟨h.gen + 1, a, u.length⟩ u (fr / 32)) d).2 = d') ∧ ((run (calls (areaN d.n) ⟨h.gen + 1, a, u.length⟩ u (fr / 32)) d).1 = false → (run (calls (areaN d.n) ⟨h.gen + 1, a, u.length⟩ u (fr / 32)) d).2 = drop d') := by
  have hlh := Lib.hid l
  have hokh := Lib.hid hok
  have hfh := Lib.hid hf
  have huh := Lib.hid hu
  have hvGh := Lib.hid hvG
  have hnqh := Lib.hid hnq
  have hsth := Lib.hid hst
  have hGh := Lib.hid hGs
  obtain ⟨m, hm⟩ : ∃ m, m = areaN d.n := ⟨_, rfl⟩
  obtain ⟨i0, hi0⟩ : ∃ i, i = fr / 32 := ⟨_, rfl⟩
  obtain ⟨cs, hcs⟩ : ∃ cs, cs = calls m ⟨h.gen + 1, a, u.length⟩ u i0 := ⟨_, rfl⟩
  rw [← hm, ← hi0, ← hcs]
  have hcsh := Lib.hid hcs
  have hm255 := Lib.hid (show m ≤ 255 from by rw [hm]; unfold areaN; omega)
  have hulh := Lib.hid (show u.length ≤ 32 * m from by rw [hm]; exact hul)
  have hi0h := Lib.hid hi0
  have hfrh := Lib.hid hfr
  have hrun := Lib.hid (fun R (e : run cs d = R) => e)
  obtain ⟨av, cv, rfl, -⟩ := id hu
  have hFD := Lib.hid (hD.mono (G := grow G w) fun _ h => .inl h)
  have hsz := Lib.hid (fun W (hR : RDisk W (grow G w) p d) => rsize_any (RV.of hR) h4 h512)
  have hmA := Lib.hid hm
  clear l hD hGs hnq hok hf hu hfr hst hvG hcs hi0 hul hm
  go_enter Tryd.func81, Tryd.ntmps81
  go_upto_block 0 with fail
  go_cut [9] (fun i wd => ∃ dj, run (cs.take (Wl.nb u - i0)) d = (true, dj) ∧ RDisk wd (grow G w) p dj ∧ Chg (grow G w) w wd ∧ dj.st.length ≤ d.st.length + 300)
  case first =>
    go_wp2_with fail
    go_loopw [9] (fun i wr => ∃ (k : Nat) (dj : D), k ≤ Wl.nb u ∧ i = .int .i64 (k : Int) ∧ RowKit.Hid (run (cs.take (k - i0)) d = (true, dj)) ∧ RowKit.Hid (RDisk wr (grow G w) p dj) ∧ RowKit.Hid (Chg (grow G w) w wr) ∧ RowKit.Hid (dj.st.length ≤ d.st.length + k)) (fun i _ => Wl.nb u - (intOf i).toNat)
    case atStart => exact ⟨0, d, Nat.zero_le _, rfl, Lib.hid (by rw [Nat.zero_sub]; rfl), hFD, Lib.hid (Chg.refl _ _), Lib.hid (Nat.le_refl _)⟩
    case round =>
      obtain ⟨k, dj, hk, rfl, hr, hDj, hcj, hsj⟩ := hrel
      have hnb : Wl.nb u ≤ 255 := by have := hulh.out; have := hm255.out; unfold Wl.nb; omega
      have g1 : IntKind.i64.wrap (32 * (k : Int)) = 32 * (k : Int) := wrap_le (by omega) (by omega)
      have g2 : IntKind.i64.wrap (32 * (k : Int) + 32) = 32 * (k : Int) + 32 := wrap_le (by omega) (by omega)
      have g3 : IntKind.i64.wrap ((k : Int) + 1) = (k : Int) + 1 := wrap_le (by omega) (by omega)
      by_cases hlt : 32 * k < u.length
      · have hki : 32 * (k : Int) < (u.length : Int) := by omega
        have hk1 : k + 1 ≤ Wl.nb u := by unfold Wl.nb; omega
        by_cases hsk : 32 * k + 32 ≤ fr
        · have hfi : ¬ (fr : Int) < 32 * (k : Int) + 32 := by omega
          have hki0 : k + 1 - i0 = k - i0 := by have := hi0h.out; omega
          go_wp2
          go_roundw
          case rel => exact ⟨k + 1, dj, hk1, by go_num, by rw [hki0]; exact hr, hDj, hcj, Lib.hid (by have := hsj.out; omega)⟩
          case measure => simp [intOf]; omega
        · have hfi : (fr : Int) < 32 * (k : Int) + 32 := by omega
          have hik : i0 ≤ k := by have := hi0h.out; omega
          have hdn := run_n (cs.take (k - i0)) hokh.out
          rw [hr.out] at hdn
          have hcw := calls_wr (m := m) (h := ⟨h.gen + 1, a, u.length⟩) (u := u) (i0 := i0) (j := k - i0) (by omega)
          rw [← hcsh.out, show i0 + (k - i0) = k by omega] at hcw
          have hA2 : a = 0 ∨ a = 1 := by have h1 : a < 2 := hfh.out.area; omega
          obtain ⟨M, hM⟩ : ∃ M, M = 32 * m := ⟨_, rfl⟩
          obtain ⟨X, hX⟩ : ∃ X, X = a * M := ⟨_, rfl⟩
          obtain ⟨Y, hY⟩ : ∃ Y, Y = a * m := ⟨_, rfl⟩
          have hYX : X = 32 * Y ∧ Y ≤ 255 := by
            have := hm255.out
            rcases hA2 with rfl | rfl <;> omega
          have q2 : IntKind.i64.wrap ((a : Int) * (M : Int)) = (X : Int) := by
            rw [show (a : Int) * (M : Int) = (X : Int) from by rw [hX]; exact (Int.natCast_mul a M).symm]
            exact wrap_sm (by omega)
          have q3 : IntKind.i64.wrap ((X : Int) / 32) = (Y : Int) := by rw [show (X : Int) / 32 = (Y : Int) by omega]; exact wrap_sm (by omega)
          obtain ⟨Z2, hZ2⟩ : ∃ Z, Z = 2 + Y := ⟨_, rfl⟩
          have q4 : IntKind.i64.wrap (2 + (Y : Int)) = (Z2 : Int) := by rw [show (2 : Int) + (Y : Int) = (Z2 : Int) by omega]; exact wrap_sm (by omega)
          obtain ⟨Z, hZ⟩ : ∃ Z, Z = Z2 + k := ⟨_, rfl⟩
          have q5 : IntKind.i64.wrap ((Z2 : Int) + (k : Int)) = (Z : Int) := by rw [show (Z2 : Int) + (k : Int) = (Z : Int) by omega]; exact wrap_sm (by omega)
          have hcw' : cs[k - i0]? = some (.wr Z (Wl.part u k)) := by rw [hcw]; congr 2; show 2 + a * m + k = Z; omega
          have hcwh := Lib.hid hcw'
          have hsz2 := Lib.hid (fun W (e : Ext wr W) => rsize_any (RV.of (hDj.out.ext e)) (by rw [hdn]; exact h4) (by rw [hdn]; exact h512))
          rw [show areaN dj.n = m from by rw [hdn]; exact hmA.out.symm, ← hM] at hsz2
          obtain ⟨g, o, rfl⟩ := huh.out.ad (by omega)
          have hcv := huh.out.cp.2.1
          have hnG : RowKit.Hid (¬ grow G w q) := Lib.hid fun h => h.elim hnqh.out (fun h => by have := hlh.out.lt; omega)
          have hl0 := (hlh.out.chg hcj.out hnG.out).cells.1
          have hS := Lib.hid (show ∀ W, Chg (grow G w) w W → W.cell? ⟨q, 0, none⟩ = some (.pointer (some ⟨p, 0, none⟩)) from fun W c => (hlh.out.chg c hnG.out).cells.1)
          have s1 : (0 : Int) ≤ 32 * (k : Int) := by omega
          obtain ⟨ee, hee⟩ : ∃ e, e = min u.length (32 * k + 32) := ⟨_, rfl⟩
          have s2 : (if 32 * (k : Int) + 32 < (u.length : Int) then 32 * (k : Int) + 32 else (u.length : Int)) = (ee : Int) := by split <;> omega
          have s3 : 32 * (k : Int) ≤ (ee : Int) := by omega
          have s4 : (ee : Int) ≤ (cv : Int) := by omega
          have s5 : (32 * (k : Int)).toNat = 32 * k := by omega
          have hPb := Lib.hid (show Bytes w (.slice (some ⟨g, o + 32 * k, none⟩) (ee - 32 * k) (cv - 32 * k)) (Wl.part u k) from by
            have hp := huh.out.pc (32 * k) (ee - 32 * k) (by omega)
            have hpt : (u.drop (32 * k)).take (ee - 32 * k) = Wl.part u k := by
              unfold Wl.part
              by_cases hc : 32 * k + 32 ≤ u.length
              · rw [show ee - 32 * k = 32 by omega]
              · rw [List.take_of_length_le (by rw [List.length_drop]; omega), List.take_of_length_le (by rw [List.length_drop]; omega)]
            rw [hpt] at hp
            exact hp)
          have err := Ext.refl wr
          have s6 : ¬ cv = 32 * k := by omega
          have hgG : RowKit.Hid (¬ grow G w g) := Lib.hid fun h => h.elim (hvGh.out g rfl (fun e => by rw [e] at hlt; simp at hlt)) (fun h => by have := huh.out.blk_lt (fun e => by rw [e] at hlt; simp at hlt) g rfl; omega)
          obtain ⟨d2, hd2⟩ : ∃ d2, d2 = cD (.wr Z (Wl.part u k)) dj := ⟨_, rfl⟩
          obtain ⟨E, hE⟩ : ∃ E, E = cE (.wr Z (Wl.part u k)) dj := ⟨_, rfl⟩
          have hP3 := Lib.hid (show ∀ W, Ext wr W → Calls Tryd.prog 87 #[.pointer (some ⟨p, 0, none⟩), .int .i64 (Z : Int), .slice (some ⟨g, o + 32 * k, none⟩) (ee - 32 * k) (cv - 32 * k)] W fun e w' => e = .returned (.int .i64 E) ∧ Chg (grow G w) W w' ∧ RDisk w' (grow G w) p d2 from fun W e =>
            (rwrite_any (hDj.out.ext e) (by have := hsj.out; have := hsth.out; omega) (Z : Int) _ (Wl.part u k) (fun w' c => hPb.out.chgV ((hcj.out.ext e).trans c) (fun kk hkk _ hg => by cases hkk; exact hgG.out hg))).mono fun e' w' ⟨r1, r2, r3⟩ => ⟨by rw [r1, hE]; rfl, r2, by rw [hd2]; exact r3.mono fun kk hkk => hkk.elim id fun h => .inr (Nat.le_trans (Nat.le_trans hcj.out.size e.size) h)⟩)
          have hl2 := Lib.hid (show d2.st.length ≤ d.st.length + (k + 1) from by have h1 := cD_len (.wr Z (Wl.part u k)) dj; rw [← hd2] at h1; have h2 := hsj.out; omega)
          have hkk := Lib.hid (show k + 1 - i0 = k - i0 + 1 from by omega)
          clear hcw hcw' hA2 hX hY hYX hZ2 hZ hM hee
          by_cases h0 : E = 0
          · have hr2 := Lib.hid (run_next hcwh.out hr.out (hE.symm.trans h0))
            rw [← hd2, ← hkk.out] at hr2
            subst h0
            clear hE hd2
            go_upto_region 5 with fail
            go_region_held3 (fun W => W.cell? ⟨q, 0, none⟩ = some (.pointer (some ⟨p, 0, none⟩)))
              ((refine hS.out _ ?_; first | exact hcj.out.drew.trans c3 | exact hcj.out.drew))
              (first
                | (go_at_call 60; refine (hsz2.out _ err.drew).mono ?_; rintro e w' ⟨rfl, rfl⟩)
                | (go_at_call 87; refine (hP3.out _ err.drew).mono ?_; rintro e w3 ⟨rfl, c3, D3⟩))
            all_goals
              go_wp2
              go_roundw
              case rel => exact ⟨k + 1, d2, hk1, by go_num, hr2, Lib.hid D3, Lib.hid (hcj.out.drew.trans c3), hl2⟩
              case measure => simp [intOf]; omega
          · have hr2 := Lib.hid (run_bad hcwh.out hr.out (fun h => h0 (hE.trans h)))
            rw [← hd2] at hr2
            have d1 : (E != 0) = true := by rw [bne_iff_ne]; exact h0
            clear hE hd2 h0
            go_upto_region 5 with fail
            go_region_held3 (fun W => W.cell? ⟨q, 0, none⟩ = some (.pointer (some ⟨p, 0, none⟩)))
              ((refine hS.out _ ?_; first | exact hcj.out.drew.trans c3 | exact hcj.out.drew))
              (first
                | (go_at_call 60; refine (hsz2.out _ err.drew).mono ?_; rintro e w' ⟨rfl, rfl⟩)
                | (go_at_call 87; refine (hP3.out _ err.drew).mono ?_; rintro e w3 ⟨rfl, c3, D3⟩))
            all_goals go_wp2
            all_goals go_ret
            all_goals exact ⟨d2, by rw [hr2.out]; rfl, Chg.after (Ext.refl w) (hcj.out.drew.trans c3), D3, (fun h => by rw [hr2.out] at h; cases h), (fun _ => by rw [hr2.out])⟩
      · have hki : ¬ 32 * (k : Int) < (u.length : Int) := by omega
        have hkn : k - i0 = Wl.nb u - i0 := by have := hi0h.out; have := hfrh.out; unfold Wl.nb at *; omega
        go_wp2
        go_meet
        exact ⟨dj, by rw [← hkn]; exact hr.out, hDj.out, hcj.out, by have := hsj.out; omega⟩
  case rest =>
    obtain ⟨dj, hr, hDj, hcj, hsj⟩ := hcut
    obtain ⟨w1, rfl⟩ : ∃ W, W = wc := ⟨_, rfl⟩
    obtain ⟨n, hn⟩ : ∃ n, n = Wl.nb u - i0 := ⟨_, rfl⟩
    rw [← hn] at hr
    obtain ⟨Gn, hGn⟩ : ∃ g, g = h.gen + 1 := ⟨_, rfl⟩
    have hcs0 := hcsh.out
    have hf := hfh.out
    rw [← hGn] at hcs0 hf
    have hc0 : cs[n]? = some .sy := by rw [hcs0]; exact calls_end (j := 0) hn
    have hc1 : cs[n + 1]? = some (.wr (Gn % 2) (hb ⟨Gn, a, u.length⟩)) := by rw [hcs0]; exact calls_end (j := 1) hn
    have hc2 : cs[n + 1 + 1]? = some .sy := by rw [hcs0]; exact calls_end (j := 2) hn
    have hcl : cs.length = n + 1 + 1 + 1 := by rw [hcs0, calls_length, hn]
    have htk := Lib.hid (show cs.take (n + 1 + 1 + 1) = cs from by rw [← hcl]; exact List.take_length)
    have hnG : RowKit.Hid (¬ grow G w q) := Lib.hid fun h => h.elim hnqh.out (fun h => by have := hlh.out.lt; omega)
    have hGw : IntKind.i64.wrap ((h.gen : Int) + 1) = (Gn : Int) := by
      have h1 : Gn < 262144 := hf.gen
      rw [wrap_le (by omega) (by omega)]; omega
    obtain ⟨R, hR⟩ : ∃ R, R = Gn % 2 := ⟨_, rfl⟩
    have tm : Int.tmod (Gn : Int) 2 = (R : Int) := by rw [Int.tmod_eq_emod_of_nonneg (by omega)]; omega
    rw [← hR] at hc1
    have hS := Lib.hid (show ∀ W, Chg (grow G w) w W → (W.cell? ⟨q, 0, none⟩ = some (.pointer (some ⟨p, 0, none⟩)) ∧ W.cell? ⟨q, 1, none⟩ = some (.int .i64 (h.gen : Int))) from fun W c => ⟨(hlh.out.chg c hnG.out).cells.1, (hlh.out.chg c hnG.out).cells.2.1⟩)
    have hbk := Lib.hid (rhead_any ⟨Gn, a, u.length⟩ hf)
    generalize hb ⟨Gn, a, u.length⟩ = HB at *
    obtain ⟨E1, hE1⟩ : ∃ E, E = cE .sy dj := ⟨_, rfl⟩
    obtain ⟨d1, hd1⟩ : ∃ x, x = cD .sy dj := ⟨_, rfl⟩
    have hP1 := Lib.hid (show Calls Tryd.prog 88 #[.pointer (some ⟨p, 0, none⟩)] w1 fun e w' => e = .returned (.int .i64 E1) ∧ Chg (grow G w) w1 w' ∧ RDisk w' (grow G w) p d1 from by rw [hE1, hd1]; exact rsync_any hDj)
    have hl1 := Lib.hid (show d1.st.length ≤ dj.st.length + 1 from by rw [hd1]; exact cD_len .sy dj)
    obtain ⟨l0, -⟩ := hS.out _ hcj
    have hfin := Lib.hid (show ∀ W, Chg (grow G w) w1 W → Chg G w W from fun W c => Chg.after (Ext.refl w) (hcj.trans c))
    clear hcs0 hGn hcl hn hR
    by_cases h0 : E1 = 0
    · have hr1 := Lib.hid (run_next hc0 hr (hE1.symm.trans h0))
      rw [← hd1] at hr1
      subst h0
      clear hE1 hd1 hDj
      go_upto_region 11 with (go_at_call 88; refine hP1.out.mono ?_; rintro e w2 ⟨rfl, c2, D2⟩)
      obtain ⟨E2, hE2⟩ : ∃ E, E = cE (.wr R HB) d1 := ⟨_, rfl⟩
      obtain ⟨d2, hd2⟩ : ∃ x, x = cD (.wr R HB) d1 := ⟨_, rfl⟩
      have hst1 : d1.st.length ≤ 1048000 := by have := hl1.out; have := hsth.out; omega
      have hgs : w.heap.size ≤ w2.heap.size := Nat.le_trans hcj.size c2.size
      have hwr := Lib.hid (show ∀ W v (_ : Ext w2.drew W) (_ : OwnB W w2.drew.heap.size v HB), Calls Tryd.prog 87 #[.pointer (some ⟨p, 0, none⟩), .int .i64 (R : Int), v] W fun e w' => e = .returned (.int .i64 E2) ∧ Chg (grow G w) W w' ∧ RDisk w' (grow G w) p d2 from fun W v e o =>
        (rwrite_any ((D2.bound).ext ((Ext.refl w2).drew.trans e)) hst1 (R : Int) v HB (fun w' c => (o.chg c (fun k hk hFk => by have := hFk.2; have : w2.drew.heap.size = w2.heap.size := rfl; omega)).bytes)).mono fun e' w' ⟨r1, r2, r3⟩ => ⟨by rw [r1, hE2]; rfl, r2.mono (fun k hk => hk.1), by rw [hd2]; exact r3.mono fun k hk => hk.elim (fun h => h.1) fun h => .inr (Nat.le_trans hgs (Nat.le_trans (show w2.heap.size ≤ W.heap.size from e.size) h))⟩)
      have hcjh := Lib.hid hcj
      have c2h := Lib.hid c2
      have c2d : Chg (grow G w) w w2.drew := (hcj.trans c2).drew
      have hc1h := Lib.hid hc1
      have hc2h := Lib.hid hc2
      clear hr hcj D2 c2 l0 hst1 hgs hc0 hc1 hc2 hP1 hsj
      have hl2 := Lib.hid (show d2.st.length ≤ d1.st.length + 1 from by rw [hd2]; exact cD_len _ _)
      by_cases h0 : E2 = 0
      · have hr2 := Lib.hid (run_next hc1h.out hr1.out (hE2.symm.trans h0))
        rw [← hd2] at hr2
        subst h0
        clear hE2 hd2
        obtain ⟨E3, hE3⟩ : ∃ E, E = cE .sy d2 := ⟨_, rfl⟩
        obtain ⟨d3, hd3⟩ : ∃ x, x = cD .sy d2 := ⟨_, rfl⟩
        have hP3 := Lib.hid (show ∀ W, RDisk W (grow G w) p d2 → Calls Tryd.prog 88 #[.pointer (some ⟨p, 0, none⟩)] W fun e w' => e = .returned (.int .i64 E3) ∧ Chg (grow G w) W w' ∧ RDisk w' (grow G w) p d3 from fun W D => by rw [hE3, hd3]; exact rsync_any D)
        by_cases h0 : E3 = 0
        · have hr3 := run_next hc2h.out hr2.out (hE3.symm.trans h0)
          rw [← hd3, htk.out] at hr3
          have hr3h := Lib.hid hr3
          subst h0
          clear hE3 hd3 hr3
          go_region_held3 (fun W => W.cell? ⟨q, 0, none⟩ = some (.pointer (some ⟨p, 0, none⟩)) ∧ W.cell? ⟨q, 1, none⟩ = some (.int .i64 (h.gen : Int)))
            ((refine hS.out _ ?_; first | exact (c2d.trans (Chg.of_ext e3)).trans c4 | exact c2d.trans (Chg.of_ext e3) | exact c2d))
            (first
              | (go_at_call 24; refine (hbk.out w2.drew).mono ?_; rintro e w3 ⟨v3, rfl, o3, e3⟩)
              | (go_at_call 87; refine (hwr.out _ _ e3 o3).mono ?_; rintro e w4 ⟨rfl, c4, D4⟩))
          all_goals have c4f := (c2d.trans (Chg.of_ext e3)).trans c4
          all_goals obtain ⟨l0, -⟩ := hS.out _ c4f
          all_goals have c4h := Lib.hid c4f
          all_goals clear hwr e3 o3 c4 c2d c4f
          all_goals go_wp2_with (go_at_call 88; refine (hP3.out _ D4).mono ?_; rintro e w5 ⟨rfl, c5, D5⟩)
          all_goals go_ret
          all_goals exact ⟨d3, by rw [hr3h.out]; rfl, Chg.after (Ext.refl w) (c4h.out.trans c5), D5, (fun _ => by rw [hr3h.out]), (fun h => by rw [hr3h.out] at h; cases h)⟩
        · have hr3 := Lib.hid (run_bad hc2h.out hr2.out (fun h => h0 (hE3.trans h)))
          rw [← hd3] at hr3
          have t3 : (E3 == 0) = false := by rw [beq_eq_false_iff_ne]; exact h0
          clear hE3 hd3 h0
          go_region_held3 (fun W => W.cell? ⟨q, 0, none⟩ = some (.pointer (some ⟨p, 0, none⟩)) ∧ W.cell? ⟨q, 1, none⟩ = some (.int .i64 (h.gen : Int)))
            ((refine hS.out _ ?_; first | exact (c2d.trans (Chg.of_ext e3)).trans c4 | exact c2d.trans (Chg.of_ext e3) | exact c2d))
            (first
              | (go_at_call 24; refine (hbk.out w2.drew).mono ?_; rintro e w3 ⟨v3, rfl, o3, e3⟩)
              | (go_at_call 87; refine (hwr.out _ _ e3 o3).mono ?_; rintro e w4 ⟨rfl, c4, D4⟩))
          all_goals have c4f := (c2d.trans (Chg.of_ext e3)).trans c4
          all_goals obtain ⟨l0, -⟩ := hS.out _ c4f
          all_goals have c4h := Lib.hid c4f
          all_goals clear hwr e3 o3 c4 c2d c4f
          all_goals go_wp2_with (go_at_call 88; refine (hP3.out _ D4).mono ?_; rintro e w5 ⟨rfl, c5, D5⟩)
          all_goals go_ret
          all_goals exact ⟨d3, by rw [hr3.out]; first | rfl | exact congrArg (fun b => Ending.returned (Value.bool b)) t3, Chg.after (Ext.refl w) (c4h.out.trans c5), D5, (fun h => by rw [hr3.out] at h; cases h), (fun _ => by rw [hr3.out])⟩
      · have hr2 := Lib.hid (run_bad hc1h.out hr1.out (fun h => h0 (hE2.trans h)))
        rw [← hd2] at hr2
        have t2 : (E2 != 0) = true := by rw [bne_iff_ne]; exact h0
        clear hE2 hd2 h0
        go_region_held3 (fun W => W.cell? ⟨q, 0, none⟩ = some (.pointer (some ⟨p, 0, none⟩)) ∧ W.cell? ⟨q, 1, none⟩ = some (.int .i64 (h.gen : Int)))
          ((refine hS.out _ ?_; first | exact (c2d.trans (Chg.of_ext e3)).trans c4 | exact c2d.trans (Chg.of_ext e3) | exact c2d))
          (first
            | (go_at_call 24; refine (hbk.out w2.drew).mono ?_; rintro e w3 ⟨v3, rfl, o3, e3⟩)
            | (go_at_call 87; refine (hwr.out _ _ e3 o3).mono ?_; rintro e w4 ⟨rfl, c4, D4⟩))
        all_goals have c4f := (c2d.trans (Chg.of_ext e3)).trans c4
        all_goals obtain ⟨l0, -⟩ := hS.out _ c4f
        all_goals have c4h := Lib.hid c4f
        all_goals clear hwr e3 o3 c4 c2d c4f
        all_goals go_wp2
        all_goals go_ret
        all_goals exact ⟨d2, by rw [hr2.out]; rfl, Chg.after (Ext.refl w) c4h.out, D4, (fun h => by rw [hr2.out] at h; cases h), (fun _ => by rw [hr2.out])⟩
    · have hr1 := Lib.hid (run_bad hc0 hr (fun h => h0 (hE1.trans h)))
      rw [← hd1] at hr1
      have t1 : (E1 != 0) = true := by rw [bne_iff_ne]; exact h0
      clear hE1 hd1 hDj h0
      go_wp2_with (go_at_call 88; refine hP1.out.mono ?_; rintro e w2 ⟨rfl, c2, D2⟩)
      go_ret
      exact ⟨d1, by rw [hr1.out]; rfl, hfin.out _ c2, D2, (fun h => by rw [hr1.out] at h; cases h), (fun _ => by rw [hr1.out])⟩
end Go.Proofs.YtmpjcnopakfdmaaDoor



namespace Go.Proofs.YtmpjcnopakfdmaaDoor
set_option linter.unusedVariables false
set_option linter.unusedSimpArgs false
open Go.RowKit Dk Wl Fr

theorem gen_post {P : Program} {f : Nat} {av : Array Value} {w : World} {Q : Ending → World → Prop} (h : ∀ Q', RowKit.Hid (∀ e w', Q e w' → Q' e w') → Calls P f av w Q') : Calls P f av w Q := h Q (Lib.hid fun _ _ h => h)
set_option maxRecDepth 20000 in
set_option maxHeartbeats 4000000 in
theorem rlogPut_any {w : World} {G : Nat → Prop} {q p : Nat} {g : Lg} {vl vn : Value} {rs : List (List UInt8)} {a fr : Nat} (l : RLogAt w q p g.h vl) (hD : RDisk w G p g.d) (hGs : ∀ k, G k → k < w.heap.size) (hnq : ¬ G q) (hok : g.d.Ok) (h4 : 4 ≤ g.d.n) (h512 : g.d.n ≤ 512)
    (ha : a < 2) (hg : g.h.gen < 262144) (hn : LL w vn rs) (hrs : rs.length ≤ 1000000) (he : errAll rs = 0) (hfr : fr ≤ (all rs).length) (hst : g.d.st.length ≤ 100000) :
    Calls Tryd.prog 66 #[.pointer (some ⟨q, 0, none⟩), .int .i64 (a : Int), vn, .int .i64 (fr : Int)] w fun e w' =>
      ((32 * areaN g.d.n < size rs ∨ 262144 ≤ g.h.gen + 1) → e = .returned (.int .i64 5) ∧ Ext w w') ∧
      (¬ (32 * areaN g.d.n < size rs ∨ 262144 ≤ g.h.gen + 1) → e = .returned (.int .i64 (putL ⟨g.h.gen + 1, a, size rs⟩ (all rs) (fr / 32) g).1) ∧ Chg (fun k => G k ∨ k = q) w w' ∧ RDisk w' (grow G w) p (putL ⟨g.h.gen + 1, a, size rs⟩ (all rs) (fr / 32) g).2.d ∧
        RLogAt w' q p (putL ⟨g.h.gen + 1, a, size rs⟩ (all rs) (fr / 32) g).2.h (if (putL ⟨g.h.gen + 1, a, size rs⟩ (all rs) (fr / 32) g).1 = 0 then vn else vl)) := by
  have hlh := Lib.hid l
  have hDh := Lib.hid hD
  have hnqh := Lib.hid hnq
  have hGh := Lib.hid hGs
  have hokh := Lib.hid hok
  have hsth := Lib.hid hst
  have hfrh := Lib.hid hfr
  have hra := Lib.hid (rall_any vn rs w hn (by omega))
  rw [he] at hra
  obtain ⟨al, cl, rfl, -⟩ := hn.get
  obtain ⟨u, hu⟩ : ∃ u, u = all rs := ⟨_, rfl⟩
  rw [show size rs = u.length from by rw [hu, all_length], ← hu]
  rw [← hu] at hra hfrh
  obtain ⟨M, hM⟩ : ∃ M, M = areaN g.d.n := ⟨_, rfl⟩
  have hMh := Lib.hid hM
  have hM255 : M ≤ 255 := by rw [hM]; unfold areaN; omega
  have hsz := Lib.hid (fun W (e : Ext w W) => rsize_any (RV.of (hD.ext e)) h4 h512)
  rw [← hM] at hsz ⊢
  obtain ⟨N, hN⟩ : ∃ N, N = 32 * M := ⟨_, rfl⟩
  rw [← hN] at hsz ⊢
  have hnh := Lib.hid hn
  have hNh := Lib.hid hN
  clear hN
  refine gen_post ?_
  intro Q0 hQ0
  obtain ⟨Gn, hGn⟩ : ∃ n, n = g.h.gen + 1 := ⟨_, rfl⟩
  have g1 : IntKind.i64.wrap ((g.h.gen : Int) + 1) = (Gn : Int) := by rw [wrap_le (by omega) (by omega)]; omega
  have hGnh := Lib.hid hGn
  clear hGn
  clear l hD hGs hnq hok hst hfr hn hu hM
  go_enter Tryd.func66, Tryd.ntmps66
  go_upto_region 2 with (go_at_call 17; refine hra.out.mono ?_; rintro e w1 ⟨r, rfl, x, rfl, e1, ⟨-, hx⟩ | ⟨hx, -⟩⟩; rotate_left; exact absurd rfl hx)
  have hxb := Lib.hid hx.bytes
  have hxo := Lib.hid (show ∀ k, vblk x = some k → u ≠ [] → w.heap.size ≤ k from fun k hk hl => by
    obtain ⟨g, cap, rfl, h2, -⟩ := hx.cells (List.length_pos_iff.2 hl)
    cases hk
    exact h2)
  obtain ⟨ax, cx, rfl, -⟩ := hx.bytes
  have e1h := Lib.hid e1
  have hl1 := hlh.out.ext e1
  obtain ⟨c0, c1, -⟩ := hl1.cells
  have hs1 := hsz.out _ e1
  clear hra hx e1
  by_cases hA : N < u.length
  · have d1 : decide ((N : Int) < (u.length : Int)) = true := by rw [decide_eq_true_iff]; omega
    have hAi : (N : Int) < (u.length : Int) := by omega
    have hAh := Lib.hid hA
    clear hl1 hA
    go_wp2_with (go_at_call 60; refine hs1.mono ?_; rintro e w2 ⟨rfl, rfl⟩)
    exact hQ0.out _ _ ⟨fun _ => ⟨rfl, e1h.out⟩, fun h => absurd (Or.inl hAh.out) h⟩
  · have d1 : decide ((N : Int) < (u.length : Int)) = false := by rw [decide_eq_false_iff_not]; omega
    have hAi : ¬ (N : Int) < (u.length : Int) := by omega
    by_cases hB : g.h.gen = 262143
    · have hBi : (g.h.gen : Int) = 262143 := by omega
      have d2 : ((g.h.gen : Int) == 262143) = true := by rw [beq_iff_eq]; omega
      have hBh := Lib.hid hB
      clear hl1 hB hA
      go_wp2_with (go_at_call 60; refine hs1.mono ?_; rintro e w2 ⟨rfl, rfl⟩)
      exact hQ0.out _ _ ⟨fun _ => ⟨rfl, e1h.out⟩, fun h => absurd (Or.inr (by have := hBh.out; omega)) h⟩
    · have hBi : ¬ (g.h.gen : Int) = 262143 := by omega
      have d2 : ((g.h.gen : Int) == 262143) = false := by rw [beq_eq_false_iff_ne]; omega
      have hno : ¬ (N < u.length ∨ 262144 ≤ g.h.gen + 1) := by omega
      have hnoh := Lib.hid hno
      have := hNh.out
      have hla := Lib.hid (rlogLay_any (a := a) (fr := fr) hl1 (hDh.out.ext e1h.out) (fun k hk => Nat.lt_of_lt_of_le (hGh.out k hk) e1h.out.size) hnqh.out hokh.out h4 h512 ⟨show g.h.gen + 1 < 262144 by omega, ha, show u.length < 8192 by omega⟩ hxb.out (by rw [← hMh.out]; omega) hfrh.out hsth.out (fun k hk hl hG => by have := hxo.out k hk hl; have := hGh.out k hG; omega))
      obtain ⟨R, hR⟩ : ∃ R, R = run (calls (areaN g.d.n) ⟨g.h.gen + 1, a, u.length⟩ u (fr / 32)) g.d := ⟨_, rfl⟩
      rw [← hR] at hla
      have hput := Lib.hid (show putL ⟨g.h.gen + 1, a, u.length⟩ u (fr / 32) g = if R.1 then (0, ⟨R.2, ⟨g.h.gen + 1, a, u.length⟩, u⟩) else (21, ⟨R.2, g.h, g.u⟩) from by rw [hR]; rfl)
      obtain ⟨b, dd⟩ := R
      have hl1h := Lib.hid hl1
      have hgr := Lib.hid (show ∀ k, grow G w1 k → grow G w k from fun k hk => hk.imp id fun h => Nat.le_trans e1h.out.size h)
      clear hl1 hA hB hno hR
      cases b
      · go_upto_region 6 with (first
          | (go_at_call 60; refine hs1.mono ?_; rintro e w2 ⟨rfl, rfl⟩)
          | (go_at_call 81; refine hla.out.mono ?_; rintro e w3 ⟨d', rfl, c3, D3, -, hf3⟩))
        have hl3 := Lib.hid (hl1h.out.chg c3 hnqh.out)
        obtain ⟨c0, -⟩ := hl3.out.cells
        have hd3 := Lib.hid (rdrop_any D3)
        have hf := hf3 trivial
        have hfh := Lib.hid hf
        clear hf3 hf D3
        go_wp2_with (go_at_call 82; refine hd3.out.mono ?_; rintro e w4 ⟨rfl, c4, D4⟩)
        refine hQ0.out _ _ ⟨fun h => absurd h hnoh.out, fun _ => ?_⟩
        rw [hput.out]
        have c14 : Chg G w1 w4 := Chg.after (Ext.refl w1) ((c3.mono fun k hk => .inl hk).trans c4)
        have hl4 := hl1h.out.chg c14 hnqh.out
        refine ⟨rfl, (Chg.after e1h.out (c14.mono fun k hk => .inl hk)).mono fun k hk => .inl hk, ?_, hl4⟩
        have hdd : dd = drop d' := hfh.out
        rw [hdd]
        exact D4.mono hgr.out
      · go_upto_region 8 with (first
          | (go_at_call 60; refine hs1.mono ?_; rintro e w2 ⟨rfl, rfl⟩)
          | (go_at_call 81; refine hla.out.mono ?_; rintro e w3 ⟨d', rfl, c3, D3, ht3, -⟩))
        have hl3 := Lib.hid (hl1h.out.chg c3 hnqh.out)
        obtain ⟨-, f1, f2, f3, f4⟩ := hl3.out.cells
        have r1 := hl3.out.free 1
        have r2 := hl3.out.free 2
        have r3 := hl3.out.free 3
        have r4 := hl3.out.free 4
        have ht := Lib.hid (ht3 trivial)
        have hD3h := Lib.hid D3
        clear ht3 D3
        go_wp2
        refine hQ0.out _ _ ⟨fun h => absurd h hnoh.out, fun _ => ?_⟩
        rw [hput.out]
        have hdd : dd = d' := ht.out
        have c13 : Chg (fun k => G k ∨ k = q) w w3 := (Chg.after e1h.out (c3.mono fun k hk => .inl hk)).mono fun k hk => .inl hk
        obtain ⟨W, hW⟩ : ∃ W, W = ((((w3.setCell ⟨q, 1, none⟩ (.int .i64 (Gn : Int))).setCell ⟨q, 2, none⟩ (.int .i64 (a : Int))).setCell ⟨q, 3, none⟩ (.int .i64 (u.length : Int))).setCell ⟨q, 4, none⟩ (.slice al rs.length cl)) := ⟨_, rfl⟩
        have l9 : RLogAt W q p ⟨Gn, a, u.length⟩ (.slice al rs.length cl) := by rw [hW]; exact (((hl3.out.set1).set2).set3).set4 _
        have c9 : Chg (fun k => k = q) w3 W := by rw [hW]; exact ((((Chg.refl (fun k => k = q) w3).setCell (x := ⟨q, 1, none⟩) (fun _ => rfl) (.int .i64 (Gn : Int))).setCell (x := ⟨q, 2, none⟩) (fun _ => rfl) (.int .i64 (a : Int))).setCell (x := ⟨q, 3, none⟩) (fun _ => rfl) (.int .i64 (u.length : Int))).setCell (x := ⟨q, 4, none⟩) (fun _ => rfl) (.slice al rs.length cl)
        rw [← hW]
        rw [hGnh.out] at l9
        have hqG : ¬ grow G w1 q := fun h => h.elim hnqh.out (fun h => by have := hlh.out.lt; have := hl1h.out.lt; omega)
        refine ⟨rfl, c13.trans (c9.mono fun k hk => .inr hk), ?_, l9⟩
        rw [hdd]
        exact (hD3h.out.chg c9 (fun k hk e => hqG (e ▸ hk))).mono hgr.out
end Go.Proofs.YtmpjcnopakfdmaaDoor


namespace Go.Proofs.YtmpjcnopakfdmaaDoor
set_option linter.unusedVariables false
set_option linter.unusedSimpArgs false
open Go.RowKit Dk Wl Fr

/-- a list of lists of bytes, whose lists' blocks are among P -/
def LLP (w : World) (v : Value) (ls : List (List UInt8)) (P : Nat → Prop) : Prop :=
  ∃ a cap, v = .slice a ls.length cap ∧ ls.length ≤ cap ∧ cap ≤ maxLen ∧ (a = none → cap = 0) ∧ ∀ j l, ls[j]? = some l → ∃ g o x, a = some ⟨g, o, none⟩ ∧ w.cell? ⟨g, o + j, none⟩ = some x ∧ Bytes w x l ∧ ∀ k, vblk x = some k → l ≠ [] → P k
theorem LLP.ll {w : World} {v : Value} {ls : List (List UInt8)} {P : Nat → Prop} (h : LLP w v ls P) : LL w v ls := by
  obtain ⟨a, cap, h1, h2, h3, h4, h5⟩ := h
  exact ⟨a, cap, h1, h2, h3, h4, fun j l hj => by obtain ⟨g, o, x, k1, k2, k3, -⟩ := h5 j l hj; exact ⟨g, o, x, k1, k2, k3⟩⟩
theorem LLP.mono {w : World} {v : Value} {ls : List (List UInt8)} {P P' : Nat → Prop} (h : LLP w v ls P) (hP : ∀ k, k < w.heap.size → P k → P' k) : LLP w v ls P' := by
  obtain ⟨a, cap, h1, h2, h3, h4, h5⟩ := h
  exact ⟨a, cap, h1, h2, h3, h4, fun j l hj => by obtain ⟨g, o, x, k1, k2, k3, k4⟩ := h5 j l hj; exact ⟨g, o, x, k1, k2, k3, fun k hk hl => hP k (k3.blk_lt hl k hk) (k4 k hk hl)⟩⟩
theorem LLP.ext {w w' : World} {v : Value} {ls : List (List UInt8)} {P : Nat → Prop} (h : LLP w v ls P) (e : Ext w w') : LLP w' v ls P := by
  obtain ⟨a, cap, h1, h2, h3, h4, h5⟩ := h
  exact ⟨a, cap, h1, h2, h3, h4, fun j l hj => by obtain ⟨g, o, x, k1, k2, k3, k4⟩ := h5 j l hj; exact ⟨g, o, x, k1, e.cell k2, k3.ext e, k4⟩⟩
theorem LLP.chg {w w' : World} {F : Nat → Prop} {v : Value} {ls : List (List UInt8)} {P : Nat → Prop} (h : LLP w v ls P) (c : Chg F w w') (hv : ∀ k, v.ownBlock = some k → ¬ F k) (hP : ∀ k, P k → ¬ F k) : LLP w' v ls P := by
  obtain ⟨a, cap, rfl, h2, h3, h4, h5⟩ := h
  exact ⟨a, cap, rfl, h2, h3, h4, fun j l hj => by obtain ⟨g, o, x, rfl, k2, k3, k4⟩ := h5 j l hj; exact ⟨g, o, x, rfl, c.cell k2 (hv g rfl), k3.chgV c fun k hk hl => hP k (k4 k hk hl), k4⟩⟩
theorem LL.llp {w : World} {v : Value} {ls : List (List UInt8)} (h : LL w v ls) : LLP w v ls (fun k => k < w.heap.size) := by
  obtain ⟨a, cap, h1, h2, h3, h4, h5⟩ := h
  exact ⟨a, cap, h1, h2, h3, h4, fun j l hj => by obtain ⟨g, o, x, k1, k2, k3⟩ := h5 j l hj; exact ⟨g, o, x, k1, k2, k3, fun k hk hl => k3.blk_lt hl k hk⟩⟩
theorem OwnLL.llp {w : World} {base : Nat} {P : Nat → Prop} {v : Value} {ls : List (List UInt8)} (h : OwnLL w base P v ls) : LLP w v ls P := by
  obtain ⟨a, cap, h1, h2, h3, h4, h5⟩ := h.get
  refine ⟨a, cap, h1, h2, h3, h4, fun j l hj => ?_⟩
  obtain ⟨g, x, k1, _, k2, k3, k4⟩ := h5 j l hj
  exact ⟨g, 0, x, k1, by rw [Nat.zero_add]; exact k2, k3, k4⟩

theorem OwnLL.fresh (w : World) (G : Nat → Prop) : OwnLL (w.alloc (.cells #[] 22)) w.heap.size G (.slice (some ⟨w.heap.size, 0, none⟩) 0 0) [] := ⟨[], World.ownsRow_made w #[] 0 (Nat.le_refl _) (by simp [maxLen]) rfl, fun j l h => by simp at h⟩
/-- 'append(v, u...)', v the call's own, u's lists among P -/
theorem run_appendP (w : World) (ty : TypeId) (base : Nat) (P : Nat → Prop) (v : Value) (ls : List (List UInt8)) (hown : OwnLL w base P v ls) (w0 : World) (hb : w0.heap.size = base) (e0 : Ext w0 w) (u : Value) (ms : List (List UInt8)) (hu : LLP w0 u ms P)
    (hlen : ls.length + ms.length ≤ 1048576) :
    ∃ v' w', (Builtin.append_ #[23, 23] ty #[v, u]).run Tryd.prog w = .ok v' w' ∧ OwnLL w' base P v' (ls ++ ms) ∧ w.grownBy w' v.ownBlock := by
  obtain ⟨vs, hr, h3⟩ := id hown
  obtain ⟨i, hi, hz0, hz1, hz2⟩ := info_parts infoLL
  have hbase : base ≤ w.heap.size := by rw [← hb]; exact e0.size
  obtain ⟨au, cu, rfl, hle, hcm, hnone, hcells⟩ := hu
  cases au with
  | none =>
    have hc := hnone rfl
    subst hc
    obtain rfl : ms = [] := List.eq_nil_of_length_eq_zero (by omega)
    refine ⟨v, w, run_append_owned_none (P := Tryd.prog) w base 23 ty 22 i 1 Tryd.underlying23 hi v _ _ hr, by rw [List.append_nil]; exact hown, ⟨rfl, rfl, rfl, Nat.le_refl _, fun _ _ _ => rfl⟩⟩
  | some ad =>
    obtain ⟨us, hul, hus⟩ : ∃ us : List Value, us.length = ms.length ∧ ∀ j l, ms[j]? = some l → ∃ x, us[j]? = some x ∧ w0.cell? (ad.add j) = some x ∧ Bytes w0 x l ∧ ∀ k, vblk x = some k → l ≠ [] → P k := by
      refine ⟨(List.range ms.length).map fun j => (w0.cell? (ad.add j)).getD undef, by simp, fun j l hj => ?_⟩
      obtain ⟨g, o, x, e, hc, hx⟩ := hcells j l hj
      cases e
      have hjl := (List.getElem?_eq_some_iff.1 hj).1
      refine ⟨x, ?_, by rw [Addr.add_lit]; exact hc, hx⟩
      rw [List.getElem?_map, List.getElem?_range hjl]
      simp only [Option.map_some]
      rw [Addr.add_lit, hc]; rfl
    have hone : ∀ j x, us[j]? = some x → ∃ l, ms[j]? = some l ∧ w0.cell? (ad.add j) = some x ∧ Bytes w0 x l := fun j x hx => by
      have hj := (List.getElem?_eq_some_iff.1 hx).1
      rw [hul] at hj
      obtain ⟨x', k1, k2, k3, -⟩ := hus j ms[j] (List.getElem?_eq_getElem hj)
      rw [hx] at k1; cases k1
      exact ⟨_, List.getElem?_eq_getElem hj, k2, k3⟩
    obtain ⟨v', w', q1, q2, q3, -, q5⟩ := run_append_own_at (P := Tryd.prog) w base 23 ty 22 i (.slice none 0 0) 1 24 Tryd.underlying23 hi hz0 hz1 hz2 rfl (by decide) v ls.length vs hr ad ms.length cu us (by rw [hul]; omega)
      (fun j y hy => by obtain ⟨l, _, k2, _⟩ := hone j y hy; exact e0.cell k2)
      (fun y hy => by
        obtain ⟨j, hj⟩ := List.mem_iff_getElem?.1 hy
        obtain ⟨l, _, _, a, c, rfl, _⟩ := hone j y hj
        rfl) (by unfold maxLen; omega) (by omega) hbase
    refine ⟨v', w', q1, ⟨vs ++ us, by rw [List.length_append]; exact q2, fun j l hj => ?_⟩, q3⟩
    have hvl : vs.length = ls.length := by have := hr.1; omega
    have hvo : ∀ k, k < base → v.ownBlock ≠ some k := fun k hk e => by have := (World.ownsRow.lt hr k e).1; omega
    have hvo' : ∀ k, k < w.heap.size → v.ownBlock ≠ some k → v'.ownBlock ≠ some k := fun k hk h1 e => by
      rcases q5 with q | q
      · rw [q] at e; exact h1 e
      · rw [q] at e; cases e; omega
    by_cases hjl : j < ls.length
    · rw [List.getElem?_append_left hjl] at hj
      obtain ⟨x, k1, k2, k3, k4⟩ := h3 j l hj
      exact ⟨x, by rw [List.getElem?_append_left (by omega)]; exact k1, k2, k3.grown q3 fun k hk hl => (k4 k hk hl).2, fun k hk hl => ⟨(k4 k hk hl).1, hvo' k (k3.blk_lt hl k hk) (k4 k hk hl).2⟩⟩
    · rw [List.getElem?_append_right (by omega)] at hj
      obtain ⟨x, k1, k2, k3, kP⟩ := hus (j - ls.length) l hj
      have hlt : ∀ k, vblk x = some k → l ≠ [] → k < base := fun k hk hl => by rw [← hb]; exact k3.blk_lt hl k hk
      refine ⟨x, by rw [List.getElem?_append_right (by omega), hvl]; exact k1, ?_, (k3.ext e0).grown q3 fun k hk hl => hvo k (hlt k hk hl), fun k hk hl => ⟨kP k hk hl, hvo' k (by have := hlt k hk hl; omega) (hvo k (hlt k hk hl))⟩⟩
      obtain ⟨a, c, rfl, _⟩ := k3
      rfl
theorem wpList_appendP {ops : Array Oper} {rest : List Oper} {o : Oper} {a : Act} {w : World} {Q : Exit → Act → World → Prop} (hgd : o.guard = none) (s x : Operand)
    (ho : o.op = .call { callee := .builtin .append, args := #[s, x], argTypes := #[23, 23] })
    (base : Nat) (P : Nat → Prop) (v : Value) (ls : List (List UInt8)) (hs : a.eval s = v) (hown : OwnLL w base P v ls) (w0 : World) (hb : w0.heap.size = base) (e0 : Ext w0 w) (u : Value) (hx : a.eval x = u) (ms : List (List UInt8)) (hu : LLP w0 u ms P)
    (hlen : ls.length + ms.length ≤ 1048576)
    (h : ∀ v' w', OwnLL w' base P v' (ls ++ ms) → w.grownBy w' v.ownBlock → wpList Tryd.prog ops Q rest (a.put o.dst v') w') : wpList Tryd.prog ops Q (o :: rest) a w := by
  refine wpList_plain hgd fun K hK => ?_
  obtain ⟨v', w', hr, h2, h3⟩ := run_appendP w o.type base P v ls hown w0 hb e0 u ms hu hlen
  unfold Oper.wp execOp
  simp only [ho, resolve, invoke, builtin, Sem.run_bind, Sem.run_pure, Result.andThen_ok, List.map_toArray, List.map_cons, List.map_nil, hs, hx, hr]
  exact hK _ _ (h v' w' h2 h3)
theorem step_appendP {ops : Array Oper} {o : Oper} {a : Act} {w : World} {K : Act → World → Prop} {Q : Exit → Act → World → Prop} {E : Prop} (hgd : o.guard = none) (s x : Operand)
    (ho : o.op = .call { callee := .builtin .append, args := #[s, x], argTypes := #[23, 23] })
    (base : Nat) (P : Nat → Prop) (v : Value) (ls : List (List UInt8)) (hs : a.eval s = v) (hown : OwnLL w base P v ls) (w0 : World) (hb : w0.heap.size = base) (e0 : Ext w0 w) (u : Value) (hx : a.eval x = u) (ms : List (List UInt8)) (hu : LLP w0 u ms P)
    (hlen : ls.length + ms.length ≤ 1048576)
    (h : ∀ v' w', OwnLL w' base P v' (ls ++ ms) → w.grownBy w' v.ownBlock → K (a.put o.dst v') w') : if Region.wanted o (yielded ops a.tmps) = true then Oper.wp Tryd.prog o a w K Q else E := by
  have hw : Region.wanted o (yielded ops a.tmps) = true := by simp [Region.wanted, hgd]
  rw [if_pos hw]
  obtain ⟨v', w', hr, h2, h3⟩ := run_appendP w o.type base P v ls hown w0 hb e0 u ms hu hlen
  unfold Oper.wp execOp
  simp only [ho, resolve, invoke, builtin, Sem.run_bind, Sem.run_pure, Result.andThen_ok, List.map_toArray, List.map_cons, List.map_nil, hs, hx, hr]
  exact h _ _ h2 h3
/-- the document's log with its records: whatever happens to its own blocks, and to those of A, its records stay -/
def RLogM (w : World) (A F : Nat → Prop) (q p : Nat) (g : Lg) (rs : List (List UInt8)) : Prop :=
  ∃ G vl, RDisk w G p g.d ∧ (∀ k, G k → F k) ∧ (∀ k, G k → k < w.heap.size) ∧ F q ∧ ¬ G q ∧ RLogAt w q p g.h vl ∧ ∀ W, Chg (fun k => G k ∨ k = q ∨ A k) w W → LLP W vl rs fun k => ¬ G k ∧ k ≠ q ∧ ¬ A k ∧ k < w.heap.size
theorem RLogM.mono {w : World} {A F F' : Nat → Prop} {q p : Nat} {g : Lg} {rs : List (List UInt8)} (m : RLogM w A F q p g rs) (hF : ∀ k, F k → F' k) : RLogM w A F' q p g rs := by
  obtain ⟨G, vl, hD, hGF, hGs, hq, hnq, hl, hr⟩ := m
  exact ⟨G, vl, hD, fun k hk => hF k (hGF k hk), hGs, hF q hq, hnq, hl, hr⟩
theorem RLogM.ext {w w' : World} {A F : Nat → Prop} {q p : Nat} {g : Lg} {rs : List (List UInt8)} (m : RLogM w A F q p g rs) (e : Ext w w') : RLogM w' A (grow F w) q p g rs := by
  obtain ⟨G, vl, hD, hGF, hGs, hq, hnq, hl, hr⟩ := m
  exact ⟨G, vl, hD.ext e, fun k hk => .inl (hGF k hk), fun k hk => Nat.lt_of_lt_of_le (hGs k hk) e.size, .inl hq, hnq, hl.ext e, fun W c => (hr W ((Chg.of_ext e).trans c)).mono fun k _ h => ⟨h.1, h.2.1, h.2.2.1, Nat.lt_of_lt_of_le h.2.2.2 e.size⟩⟩
theorem RLogM.ext' {w w' : World} {A F : Nat → Prop} {q p : Nat} {g : Lg} {rs : List (List UInt8)} (m : RLogM w A F q p g rs) (e : Ext w w') : RLogM w' A F q p g rs := by
  obtain ⟨G, vl, hD, hGF, hGs, hq, hnq, hl, hr⟩ := m
  exact ⟨G, vl, hD.ext e, hGF, fun k hk => Nat.lt_of_lt_of_le (hGs k hk) e.size, hq, hnq, hl.ext e, fun W c => (hr W ((Chg.of_ext e).trans c)).mono fun k _ h => ⟨h.1, h.2.1, h.2.2.1, Nat.lt_of_lt_of_le h.2.2.2 e.size⟩⟩
theorem RLogM.bound {w : World} {A F : Nat → Prop} {q p : Nat} {g : Lg} {rs : List (List UInt8)} (m : RLogM w A F q p g rs) : RLogM w A (fun k => F k ∧ k < w.heap.size) q p g rs := by
  obtain ⟨G, vl, hD, hGF, hGs, hq, hnq, hl, hr⟩ := m
  exact ⟨G, vl, hD, fun k hk => ⟨hGF k hk, hGs k hk⟩, hGs, ⟨hq, hl.lt⟩, hnq, hl, hr⟩
/-- blocks of A have turned, and others are laid -/
theorem RLogM.other {w w' : World} {A A' F : Nat → Prop} {q p : Nat} {g : Lg} {rs : List (List UInt8)} (m : RLogM w A F q p g rs) (c : Chg A w w') (hFA : ∀ k, F k → ¬ A k) (hA : ∀ k, k < w.heap.size → A' k → A k) : RLogM w' A' F q p g rs := by
  obtain ⟨G, vl, hD, hGF, hGs, hq, hnq, hl, hr⟩ := m
  refine ⟨G, vl, hD.chg c fun k hk => hFA k (hGF k hk), hGF, fun k hk => Nat.lt_of_lt_of_le (hGs k hk) c.size, hq, hnq, hl.chg c (hFA q hq), fun W d => ?_⟩
  have d2 : Chg (fun k => G k ∨ k = q ∨ A k) w W := by
    have h0 := c.size
    refine ⟨d.os.trans c.os, d.tape.trans c.tape, d.output.trans c.output, Nat.le_trans c.size d.size, fun k hk hn => ?_⟩
    rw [d.block k (by omega) (fun h => hn (h.imp id fun h => h.imp id (hA k hk))), c.block k hk (fun h => hn (.inr (.inr h)))]
  exact (hr W d2).mono fun k _ h => ⟨h.1, h.2.1, fun h' => h.2.2.1 (hA k h.2.2.2 h'), Nat.lt_of_lt_of_le h.2.2.2 c.size⟩
/-- its disk, and what the log is behind a call of that -/
theorem RLogM.disk {w : World} {A F : Nat → Prop} {q p : Nat} {g : Lg} {rs : List (List UInt8)} (m : RLogM w A F q p g rs) : ∃ G, RDisk w G p g.d ∧ (∀ k, G k → F k) ∧ (∀ k, G k → k < w.heap.size) ∧ ∀ w' d', Chg G w w' → RDisk w' (grow G w) p d' → RLogM w' A (grow F w) q p ⟨d', g.h, g.u⟩ rs := by
  obtain ⟨G, vl, hD, hGF, hGs, hq, hnq, hl, hr⟩ := m
  refine ⟨G, hD, hGF, hGs, fun w' d' c hd => ⟨fun k => grow G w k ∧ k < w'.heap.size, vl, hd.bound, fun k hk => hk.1.imp (hGF k) id, fun k hk => hk.2, .inl hq, fun hk => ?_, hl.chg c hnq, fun W d => ?_⟩⟩
  · have := hl.lt
    exact hk.1.elim hnq fun h => by omega
  · have h0 := c.size
    have d2 : Chg (fun k => G k ∨ k = q ∨ A k) w W := by
      refine ⟨d.os.trans c.os, d.tape.trans c.tape, d.output.trans c.output, Nat.le_trans c.size d.size, fun k hk hn => ?_⟩
      rw [d.block k (by omega) (fun h => hn (h.imp (fun h => h.1.elim id fun h => by omega) id)), c.block k hk (fun h => hn (.inl h))]
    exact (hr W d2).mono fun k _ h => ⟨fun h' => h'.1.elim h.1 fun h' => by have := h.2.2.2; omega, h.2.1, h.2.2.1, by have := h.2.2.2; omega⟩
end Go.Proofs.YtmpjcnopakfdmaaDoor


namespace Go.Proofs.YtmpjcnopakfdmaaDoor
set_option linter.unusedVariables false
set_option linter.unusedSimpArgs false
open Go.RowKit Dk Wl Fr

/-- put, with the records' state -/
theorem rlogPut_m {w W : World} {A F G : Nat → Prop} {q p : Nat} {g : Lg} {vl v : Value} {rs ls : List (List UInt8)} {a fr : Nat} (hD : RDisk w G p g.d) (hGF : ∀ k, G k → F k) (hGs : ∀ k, G k → k < w.heap.size) (hq : F q) (hnq : ¬ G q) (hl : RLogAt w q p g.h vl) (hA : ∀ k, A k → k < w.heap.size) (hr : ∀ W, Chg (fun k => G k ∨ k = q ∨ A k) w W → LLP W vl rs fun k => ¬ G k ∧ k ≠ q ∧ ¬ A k ∧ k < w.heap.size)
    (s : Sane g) (hok : g.d.Ok) (hst : g.d.st.length ≤ 100000) (e : Ext w W) (ha : a < 2) (ho : OwnLL W w.heap.size (fun k => ¬ G k ∧ k ≠ q ∧ ¬ A k) v ls) (hn : ls.length ≤ 1000000) (he : errAll ls = 0) (hfr : fr ≤ (all ls).length)
    (R : Int × Lg) (hR : R = if 32 * areaN g.d.n < size ls ∨ 262144 ≤ g.h.gen + 1 then (5, g) else putL ⟨g.h.gen + 1, a, size ls⟩ (all ls) (fr / 32) g) :
    Calls Tryd.prog 66 #[.pointer (some ⟨q, 0, none⟩), .int .i64 (a : Int), v, .int .i64 (fr : Int)] W fun e w' => e = .returned (.int .i64 R.1) ∧ Chg F w w' ∧ RLogM w' A (grow F w) q p R.2 (if R.1 = 0 then ls else rs) := by
  have hp := rlogPut_any (a := a) (fr := fr) (hl.ext e) (hD.ext e) (fun k hk => Nat.lt_of_lt_of_le (hGs k hk) e.size) hnq hok s.n4 s.n512 ha s.fine.gen ho.ll hn he hfr hst
  refine hp.mono fun x w' ⟨h5, h0⟩ => ?_
  by_cases hfull : 32 * areaN g.d.n < size ls ∨ 262144 ≤ g.h.gen + 1
  · rw [if_pos hfull] at hR
    obtain ⟨r1, r2⟩ := h5 hfull
    subst hR
    exact ⟨r1, Chg.of_ext (e.trans r2), RLogM.ext (A := A) ⟨G, vl, hD, hGF, hGs, hq, hnq, hl, hr⟩ (e.trans r2)⟩
  · rw [if_neg hfull] at hR
    obtain ⟨r1, r2, r3, r4⟩ := h0 hfull
    rw [← hR] at r1 r3 r4
    have hql := hl.lt
    have hs : w.heap.size ≤ W.heap.size := e.size
    have hs2 : W.heap.size ≤ w'.heap.size := r2.size
    refine ⟨r1, Chg.after e (r2.mono fun k hk => .inl (hk.elim (hGF k) fun e => e ▸ hq)), _, _, r3.bound, fun k hk => hk.1.imp (hGF k) fun h => by omega, fun k hk => hk.2, .inl hq, fun h => h.1.elim hnq fun h => by omega, r4, fun W' c => ?_⟩
    by_cases h1 : R.1 = 0
    · rw [if_pos h1, if_pos h1]
      have hL : LLP W v ls fun k => ¬ G k ∧ k ≠ q ∧ ¬ A k ∧ k < W.heap.size := ho.llp.mono fun k h1 h2 => ⟨h2.1, h2.2.1, h2.2.2, h1⟩
      have c2 : Chg (fun k => grow G W k ∨ k = q ∨ A k) W W' := (r2.mono fun k hk => hk.imp .inl .inl).trans (c.mono fun k hk => hk.imp (fun h => h.1) id)
      refine (hL.chg c2 (fun k hk h => ?_) (fun k hk h => h.elim (fun h => h.elim hk.1 fun h => by have := hk.2.2.2; omega) fun h => h.elim hk.2.1 hk.2.2.1)).mono fun k _ hk => ⟨fun h => h.1.elim hk.1 fun h => by have := hk.2.2.2; omega, hk.2.1, hk.2.2.1, by have := hk.2.2.2; omega⟩
      have hb := ho.own_lt k hk
      exact h.elim (fun h => h.elim (fun h => by have := hGs k h; omega) fun h => by omega) fun h => h.elim (fun h => by omega) fun h => by have := hA k h; omega
    · rw [if_neg h1, if_neg h1]
      have c2 : Chg (fun k => G k ∨ k = q ∨ A k) w W' := Chg.after e ((r2.mono fun k hk => .inl (hk.imp id .inl)).trans (c.mono fun k hk => hk.elim (fun h => h.1.elim (fun h => .inl (.inl h)) fun h => .inr (by omega)) fun h => .inl (.inr h)))
      exact (hr W' c2).mono fun k _ hk => ⟨fun h => h.1.elim hk.1 fun h => by have := hk.2.2.2; omega, hk.2.1, hk.2.2.1, by have := hk.2.2.2; omega⟩
set_option maxRecDepth 20000 in
set_option maxHeartbeats 2000000 in
theorem rlogReplace_any {w : World} {A F : Nat → Prop} {q p : Nat} {g : Lg} {vb : Value} {rs ls : List (List UInt8)} (m : RLogM w A F q p g rs) (hA : ∀ k, A k → k < w.heap.size) (s : Sane g) (hok : g.d.Ok) (hst : g.d.st.length ≤ 100000) (hb : LLP w vb ls fun k => ¬ F k ∧ ¬ A k) (hn : ls.length ≤ 1000000) :
    Calls Tryd.prog 45 #[.pointer (some ⟨q, 0, none⟩), vb] w fun e w' => e = .returned (.int .i64 (opL (.rep ls) g).1) ∧ Chg F w w' ∧ RLogM w' A (grow F w) q p (opL (.rep ls) g).2 (if (opL (.rep ls) g).1 = 0 then ls else rs) := by
  have hmh := Lib.hid m
  obtain ⟨G, vl, hD, hGF, hGs, hq, hnq, hl, hr⟩ := m
  have hra := rall_any vb ls w hb.ll (by omega)
  obtain ⟨al, cl, rfl, -⟩ := hb.ll.get
  obtain ⟨X, hX⟩ : ∃ X, X = opL (.rep ls) g := ⟨_, rfl⟩
  rw [← hX]
  have hpl := planL_rep ls g.d.n g.h g.u
  have hopL : X = match planL (.rep ls) g.d.n g.h g.u with | .inl e => (e, g) | .inr (h', u', i0) => putL h' u' i0 g := hX
  refine gen_post ?_
  intro Q0 hQ0
  by_cases h1 : errAll ls = 0
  · rw [h1] at hra
    have hXp : X = if 32 * areaN g.d.n < size ls ∨ 262144 ≤ g.h.gen + 1 then (5, g) else putL ⟨g.h.gen + 1, 1 - g.h.area, size ls⟩ (all ls) (0 / 32) g := by
      rcases hpl with ⟨h0, -⟩ | ⟨-, hf, hq⟩ | ⟨-, hf, hq⟩
      · exact absurd h1 h0
      · rw [hopL, hq, if_pos hf]
      · rw [hopL, hq, if_neg hf]
    have ha := s.fine.area
    have hput := Lib.hid (fun W v (e : Ext w W) (ho : OwnLL W w.heap.size (fun k => ¬ G k ∧ k ≠ q ∧ ¬ A k) v ls) => rlogPut_m (A := A) (a := 1 - g.h.area) (fr := 0) hD hGF hGs hq hnq hl hA hr s hok hst e (by omega) ho hn h1 (Nat.zero_le _) X hXp)
    have hbP := Lib.hid (hb.mono (P' := fun k => ¬ G k ∧ k ≠ q ∧ ¬ A k) fun k _ hk => ⟨fun h => hk.1 (hGF k h), fun h => hk.1 (h ▸ hq), hk.2⟩)
    have hl2 := Lib.hid hl
    obtain ⟨A', hA'⟩ : ∃ n, n = 1 - g.h.area := ⟨_, rfl⟩
    have g3 : IntKind.i64.wrap ((1 : Int) - (g.h.area : Int)) = (A' : Int) := by rw [wrap_le (by omega) (by omega)]; omega
    rw [← hA'] at hput
    clear hpl hopL hXp hX hmh hr hD hGF hGs hq hnq hA s hok hst hb h1 ha hA' hl
    go_enter Tryd.func45, Tryd.ntmps45
    go_upto_region 4 with (go_at_call 17; refine hra.mono ?_; rintro e w1 ⟨r, rfl, x, rfl, e1, ⟨-, hx⟩ | ⟨hx, -⟩⟩; rotate_left; exact absurd rfl hx)
    have c2 := (hl2.out.ext e1).cells.2.2.1
    have e11 : Ext w w1.drew := e1.drew
    have b1 := hbP.out.ext e11
    have hsz : w.heap.size ≤ w1.drew.heap.size := e11.size
    have hnl : ([] : List (List UInt8)).length + ls.length ≤ 1048576 := by simp; omega
    clear hx e1 hra
    have hS := Lib.hid (show ∀ W, Ext w1.drew W → W.cell? ⟨q, 2, none⟩ = some (.int .i64 (g.h.area : Int)) from fun W e => e.cell c2)
    have c2a : (w1.alloc (.cells #[] 22)).cell? ⟨q, 2, none⟩ = some (.int .i64 (g.h.area : Int)) := ((Ext.refl w1).alloc _).cell c2
    go_region_law (first
      | (go_simp; go_at_call 66; refine (hput.out _ _ e9 (o4.down hsz fun _ h => h)).mono ?_; rintro e w6 ⟨rfl, c6, l6⟩; go_wp2_with fail)
      | (refine step_appendP rfl (.tmp 21) (.tmp 22) rfl w1.drew.heap.size (fun k => ¬ G k ∧ k ≠ q ∧ ¬ A k) (.slice (some ⟨w1.drew.heap.size, 0, none⟩) 0 0) [] rfl (by exact OwnLL.fresh w1.drew _) w1.drew rfl (by exact (Ext.refl w1.drew).alloc (.cells #[] 22)) (.slice al ls.length cl) rfl ls b1 hnl ?_; intro v4 w9 o4 g4; have e9' : Ext w1.drew w9 := ((Ext.refl w1.drew).alloc (.cells #[] 22)).grown g4 (fun k hk => (by cases hk; exact Nat.le_refl _)); have e9 := e11.trans e9'; have t2 := hS.out w9 e9'))
    all_goals go_wp2
    all_goals go_ret
    all_goals exact hQ0.out _ _ ⟨rfl, c6, l6⟩
  · have d1 : (errAll ls != 0) = true := by rw [bne_iff_ne]; exact h1
    have hXe : X = (errAll ls, g) := by
      rcases hpl with ⟨-, hq⟩ | ⟨h0, -⟩ | ⟨h0, -⟩
      · rw [hopL, hq]
      · exact absurd h0 h1
      · exact absurd h0 h1
    have h1h := Lib.hid h1
    have hXh := Lib.hid hXe
    clear h1 hpl hopL hXe hX hr hD hGF hGs hq hnq s hok hst hb hl
    generalize errAll ls = E at *
    go_enter Tryd.func45, Tryd.ntmps45
    go_wp2_with (go_at_call 17; refine hra.mono ?_; rintro e w1 ⟨r, rfl, x, rfl, e1, ⟨hx, -⟩ | ⟨-, rfl⟩⟩; exact absurd hx h1h.out)
    refine hQ0.out _ _ ?_
    rw [hXh.out]
    exact ⟨rfl, Chg.of_ext e1, by rw [if_neg h1h.out]; exact hmh.out.ext e1⟩
end Go.Proofs.YtmpjcnopakfdmaaDoor


