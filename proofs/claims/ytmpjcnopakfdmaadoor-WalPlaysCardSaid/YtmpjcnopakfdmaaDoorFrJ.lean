/- FrameTells: the walk. -/
import Derived.Test.YtmpjcnopakfdmaaDoorFrI
namespace Go.Proofs.YtmpjcnopakfdmaaDoor
set_option linter.unusedVariables false
set_option linter.unusedSimpArgs false
open Go.RowKit Fr

/-- a law's end -/
abbrev LawEnd (w : World) (e : Ending) (w' : World) : Prop := e = .returned (.bool true) ∧ Ext w w'
set_option maxRecDepth 20000 in
set_option maxHeartbeats 2000000 in
theorem frameTells_any (v0 : Value) (b : List UInt8) (v1 : Value) (ls : List (List UInt8)) (v2 : Value) (s : List UInt8) (w : World) (hw : Halves w) (h0 : Bytes w v0 b) (h1 : LL w v1 ls) (h2 : Bytes w v2 s) :
    Calls Tryd.prog 3 #[v0, v1, v2] w (LawEnd w) := by
  have haw := awake9_any w hw
  have hwh := Lib.hid hw
  have h0h := Lib.hid h0
  have h1h := Lib.hid h1
  have h2h := Lib.hid h2
  have hfew := fewF_ok (ls := ls)
  obtain ⟨a0, c0, rfl, -⟩ := h0
  obtain ⟨a1, c1, rfl, -⟩ := h1.get
  obtain ⟨a2, c2, rfl, -⟩ := h2
  clear h1
  obtain ⟨big, hbig⟩ : ∃ big, big = (!fewF ls || (decide (500 < b.length) && decide (b.length ≤ 4000)) || decide (5000 < b.length) || decide (700 < s.length)) := ⟨_, rfl⟩
  go_enter Tryd.func3, Tryd.ntmps3
  go_upto_region 3 with (first
    | (go_at_call 12; refine haw.mono ?_; rintro e w1 ⟨rfl, e1⟩)
    | (go_at_call 13; refine (few09_any _ _ _ (h1h.out.ext e1)).mono ?_; rintro e w1' ⟨rfl, rfl⟩))
  go_cut [8, 45] (fun f8 t wd => f8 = .bool (fewF ls) ∧ t = .bool big ∧ wd = w1)
  case first =>
    have hbh := Lib.hid hbig
    clear hbig
    cases hf : fewF ls
    · have hfh := Lib.hid hf
      have hb := Lib.hid (show big = true from by rw [hbh.out, hf]; rfl)
      clear hbh
      go_wp2
      go_meet
      exact ⟨by rw [hfh.out], by rw [hb.out], rfl⟩
    · have hfh := Lib.hid hf
      by_cases q5 : 500 < b.length
      · have d5 : decide ((500 : Int) < (b.length : Int)) = true := by rw [decide_eq_true_iff]; omega
        by_cases q4 : b.length ≤ 4000
        · have d4 : decide ((b.length : Int) ≤ 4000) = true := by rw [decide_eq_true_iff]; omega
          have hb := Lib.hid (show big = true from by rw [hbh.out, hf, decide_eq_true q5, decide_eq_true q4]; rfl)
          clear hbh
          go_wp2
          go_meet
          exact ⟨by rw [hfh.out], by rw [hb.out], rfl⟩
        · have d4 : decide ((b.length : Int) ≤ 4000) = false := by rw [decide_eq_false_iff_not]; omega
          by_cases q6 : 5000 < b.length
          · have d6 : decide ((5000 : Int) < (b.length : Int)) = true := by rw [decide_eq_true_iff]; omega
            have hb := Lib.hid (show big = true from by rw [hbh.out, decide_eq_true q6]; simp)
            clear hbh
            go_wp2
            go_meet
            exact ⟨by rw [hfh.out], by rw [hb.out], rfl⟩
          · have d6 : decide ((5000 : Int) < (b.length : Int)) = false := by rw [decide_eq_false_iff_not]; omega
            have hb := Lib.hid (show big = decide ((700 : Int) < (s.length : Int)) from by
              rw [hbh.out, hf, decide_eq_false q4, decide_eq_false q6, Bool.and_false]
              rw [Bool.eq_iff_iff, decide_eq_true_iff]; simp; omega)
            clear hbh
            go_wp2
            go_meet
            exact ⟨by rw [hfh.out], by rw [hb.out], rfl⟩
      · have d5 : decide ((500 : Int) < (b.length : Int)) = false := by rw [decide_eq_false_iff_not]; omega
        have d6 : decide ((5000 : Int) < (b.length : Int)) = false := by rw [decide_eq_false_iff_not]; omega
        have hb := Lib.hid (show big = decide ((700 : Int) < (s.length : Int)) from by
          rw [hbh.out, hf, decide_eq_false q5, decide_eq_false (show ¬ 5000 < b.length by omega), Bool.false_and]
          rw [Bool.eq_iff_iff, decide_eq_true_iff]; simp; omega)
        clear hbh
        go_wp2
        go_meet
        exact ⟨by rw [hfh.out], by rw [hb.out], rfl⟩
  case rest =>
    obtain ⟨rfl, rfl, rfl⟩ := hcut
    obtain ⟨w1, rfl⟩ : ∃ W, W = wc := ⟨_, rfl⟩
    cases hb : big
    · rw [hb] at hbig
      have hbt := hbig.symm
      simp only [Bool.or_eq_false_iff, Bool.not_eq_false', decide_eq_false_iff_not] at hbt
      obtain ⟨⟨⟨b1, -⟩, b3⟩, b4⟩ := hbt
      have hls := (hfew b1).1
      clear hbig hfew b1
      have e1h := Lib.hid e1
      have hq1 := put_any _ _ w1 (hwh.out.ext e1) (h0h.out.ext e1)
      go_upto_region 6 with (go_at_call 14; refine hq1.mono ?_; rintro e w2 ⟨r, rfl, x1, rfl, e2, hx1⟩)
      have y1 := Lib.hid (putB_of hx1)
      have e2h := Lib.hid (e1h.out.trans e2)
      have hq2 := rput_any _ _ w2 (h0h.out.ext e2h.out)
      clear hq1 hx1 e1
      go_upto_region 7 with (go_at_call 15; refine hq2.mono ?_; rintro e w3 ⟨r, rfl, x2, rfl, e3, hx2⟩)
      have y2 := Lib.hid (putB_of hx2)
      have y1 := Lib.hid (y1.out.ext e3)
      have e3h := Lib.hid (e2h.out.trans e3)
      have hq3 := all_any _ _ w3 (hwh.out.ext e3h.out) (h1h.out.ext e3h.out) (by omega)
      clear hq2 hx2 e2
      go_upto_region 8 with (go_at_call 16; refine hq3.mono ?_; rintro e w4 ⟨r, rfl, x3, rfl, e4, hx3⟩)
      have y3 := Lib.hid (allB_of hx3)
      have y2 := Lib.hid (y2.out.ext e4)
      have y1 := Lib.hid (y1.out.ext e4)
      have e4h := Lib.hid (e3h.out.trans e4)
      have hq4 := rall_any _ _ w4 (h1h.out.ext e4h.out) (by omega)
      clear hq3 hx3 e3
      go_upto_region 9 with (go_at_call 17; refine hq4.mono ?_; rintro e w5 ⟨r, rfl, x4, rfl, e5, hx4⟩)
      have y4 := Lib.hid (allB_of hx4)
      have y3 := Lib.hid (y3.out.ext e5)
      have y2 := Lib.hid (y2.out.ext e5)
      have y1 := Lib.hid (y1.out.ext e5)
      have e5h := Lib.hid (e4h.out.trans e5)
      have hq5 := scan_any _ _ w5 (hwh.out.ext e5h.out) (h2h.out.ext e5h.out) (by omega)
      clear hq4 hx4 e4
      go_upto_region 10 with (go_at_call 18; refine hq5.mono ?_; rintro e w6 ⟨r, rfl, x5, rfl, o5, e6⟩)
      have y5 := Lib.hid o5.ll
      have y4 := Lib.hid (y4.out.ext e6)
      have y3 := Lib.hid (y3.out.ext e6)
      have y2 := Lib.hid (y2.out.ext e6)
      have y1 := Lib.hid (y1.out.ext e6)
      have e6h := Lib.hid (e5h.out.trans e6)
      have hq6 := rscan_any _ _ w6 (h2h.out.ext e6h.out) (by omega)
      clear hq5 o5 e5
      go_upto_region 11 with (go_at_call 19; refine hq6.mono ?_; rintro e w7 ⟨r, rfl, x6, rfl, o6, e7⟩)
      have y6 := Lib.hid o6.ll
      have hL := lists_any _ _ _ _ w7 (y5.out.ext e7) y6.out
      have hS1 := same9_any _ _ _ _ w7 ((y1.out.ext e7)) (y2.out.ext e7)
      have hS2 := same9_any _ _ _ _ w7 ((y3.out.ext e7)) (y4.out.ext e7)
      rw [seq_self] at hS1 hS2
      rw [seqL_true.2 rfl] at hL
      have e7h := Lib.hid (e6h.out.trans e7)
      have hsz := size_any (b.length : Int) (by omega) (by omega)
      have hwr : IntKind.i64.wrap ((b.length : Int) + 6) = (b.length : Int) + 6 := wrap_le (by omega) (by omega)
      clear hq6 o6 e6 e7
      go_wp2_with (first
        | (go_at_call 20; refine hS1.mono ?_; clear hS1; rintro e w8 ⟨rfl, rfl⟩)
        | (go_at_call 20; refine hS2.mono ?_; clear hS2; rintro e w8 ⟨rfl, rfl⟩)
        | (go_at_call 21; refine hL.mono ?_; rintro e w9 ⟨rfl, e9⟩)
        | (go_at_call 22; refine (hsz _).mono ?_; rintro e w10 ⟨rfl, rfl⟩))
      go_ret
      exact ⟨rfl, e7h.out.trans e9⟩
    · clear hbig hfew
      go_wp2
      go_ret
      exact ⟨rfl, e1⟩
end Go.Proofs.YtmpjcnopakfdmaaDoor
