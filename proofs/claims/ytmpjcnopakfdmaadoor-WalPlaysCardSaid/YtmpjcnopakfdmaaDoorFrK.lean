/- FrameBack: the walk. -/
import Derived.Test.YtmpjcnopakfdmaaDoorFrJ
namespace Go.Proofs.YtmpjcnopakfdmaaDoor
set_option linter.unusedVariables false
set_option linter.unusedSimpArgs false
open Go.RowKit Fr

theorem size_few : ∀ (ls : List (List UInt8)), (∀ l ∈ ls, l.length ≤ 100 ∨ 4000 < l.length) → Fr.oks ls = true → Fr.size ls ≤ 106 * ls.length
  | [], _, _ => Nat.le_refl _
  | l :: ls, h, ho => by
    have h' : (ok l && ls.all ok) = true := by rw [← List.all_cons]; exact ho
    rw [Bool.and_eq_true] at h'
    have := size_few ls (fun m hm => h m (List.mem_cons_of_mem _ hm)) h'.2
    have h2 := (ok_iff.1 h'.1).2
    have h3 := h l List.mem_cons_self
    rw [show Fr.size (l :: ls) = 6 + l.length + Fr.size ls from rfl, List.length_cons]; omega
theorem allB_len {ls : List (List UInt8)} (h : fewF ls = true) : (allB ls).length ≤ 2120 := by
  have hf := fewF_ok h
  unfold allB
  by_cases he : errAll ls = 0
  · rw [if_pos he, all_length]
    have := size_few ls hf.2 (errAll_ok.1 he)
    omega
  · rw [if_neg he]; exact Nat.zero_le _
set_option maxRecDepth 20000 in
set_option maxHeartbeats 2000000 in
theorem frameBack_any (v0 : Value) (ls : List (List UInt8)) (w : World) (hw : Halves w) (h0 : LL w v0 ls) :
    Calls Tryd.prog 4 #[v0] w (LawEnd w) := by
  have haw := awake9_any w hw
  have hwh := Lib.hid hw
  have h0h := Lib.hid h0
  obtain ⟨a0, c0, rfl, -, hget⟩ := h0.get
  have hgh := Lib.hid hget
  clear h0 hget
  go_enter Tryd.func4, Tryd.ntmps4
  go_upto_region 3 with (first
    | (go_at_call 12; refine haw.mono ?_; rintro e w1 ⟨rfl, e1⟩)
    | (go_at_call 13; refine (few09_any _ _ _ (h0h.out.ext e1)).mono ?_; rintro e w1' ⟨rfl, rfl⟩))
  cases hf : fewF ls
  · go_wp2
    go_ret
    exact ⟨rfl, e1⟩
  have hls := (fewF_ok hf).1
  have hbl := Lib.hid (allB_len hf)
  clear hf haw
  have e1h := Lib.hid e1
  have hq1 := all_any _ _ w1 (hwh.out.ext e1) (h0h.out.ext e1) (by omega)
  go_upto_region 6 with (go_at_call 16; refine hq1.mono ?_; rintro e w2 ⟨r, rfl, x1, rfl, e2, hx1⟩)
  have y1 := allB_of hx1
  obtain ⟨a5, c5, rfl, -⟩ := id y1
  have y1h := Lib.hid y1
  have e2h := Lib.hid (e1h.out.trans e2)
  have h2h := Lib.hid ((h0h.out.ext e1).ext e2)
  clear hq1 y1 hx1 e1
  go_wp2
  go_loopw [7, 8] (fun r i wr => ∃ (k : Nat) (b : Bool), k ≤ ls.length ∧ i = .int .i64 (k : Int) ∧ r = .bool b ∧ RowKit.Hid (b = Fr.oks (ls.take k)) ∧ wr = w2) (fun _ i _ => ls.length - (intOf i).toNat)
  case atStart => exact ⟨0, true, Nat.zero_le _, rfl, rfl, Lib.hid rfl, rfl⟩
  case round =>
    obtain ⟨k, b, hk, rfl, rfl, hb, rfl⟩ := hrel
    obtain ⟨w2, rfl⟩ : ∃ W, W = wr := ⟨_, rfl⟩
    by_cases hlt : k < ls.length
    · obtain ⟨g, o, bb, cc, rfl, c1, -⟩ := hgh.out k hlt
      have d1 := e2h.out.cell c1
      have hki : (k : Int) < (ls.length : Int) := by omega
      have hnx := Lib.hid (show Fr.oks (ls.take (k + 1)) = (b && (decide (0 < ls[k].length) && decide (ls[k].length ≤ 4000))) from by
        rw [hb.out, take_snoc hlt]
        unfold Fr.oks
        rw [List.all_append]
        simp [ok])
      clear c1
      generalize ls[k] = x at *
      cases hbb : b
      · have hn2 := Lib.hid (show false = Fr.oks (ls.take (k + 1)) from by rw [hnx.out, hbb]; rfl)
        clear hnx
        go_wp2
        go_roundw
        case rel => exact ⟨k + 1, false, by omega, by go_num, rfl, hn2, trivial⟩
        case measure => simp [intOf]; omega
      · by_cases hp : 0 < x.length
        · have dp : decide ((0 : Int) < (x.length : Int)) = true := by rw [decide_eq_true_iff]; omega
          have hn2 := Lib.hid (show decide ((x.length : Int) ≤ 4000) = Fr.oks (ls.take (k + 1)) from by
            rw [hnx.out, hbb, decide_eq_true hp, Bool.true_and, Bool.true_and, Bool.eq_iff_iff, decide_eq_true_iff, decide_eq_true_iff]; omega)
          clear hnx
          go_wp2
          go_roundw
          case rel => exact ⟨k + 1, _, by omega, by go_num, rfl, hn2, trivial⟩
          case measure => simp [intOf]; omega
        · have dp : decide ((0 : Int) < (x.length : Int)) = false := by rw [decide_eq_false_iff_not]; omega
          have hn2 := Lib.hid (show false = Fr.oks (ls.take (k + 1)) from by rw [hnx.out, decide_eq_false hp]; simp)
          clear hnx
          go_wp2
          go_roundw
          case rel => exact ⟨k + 1, false, by omega, by go_num, rfl, hn2, trivial⟩
          case measure => simp [intOf]; omega
    · obtain rfl : k = ls.length := by omega
      have hbb := hb.out
      rw [List.take_length] at hbb
      clear hb
      cases hb2 : b
      · -- one of them can't be
        have hE0 : errAll ls ≠ 0 := fun h => by
          have := errAll_ok.1 h
          rw [this, hb2] at hbb
          cases hbb
        have hl0 : (allB ls).length = 0 := by rw [show allB ls = [] from if_neg hE0]; rfl
        have hcs := errAll_cases ls
        clear hbb
        rcases hcs with h | h | h
        · exact absurd h hE0
        · clear hE0
          go_wp2
          go_ret
          exact ⟨rfl, e2h.out⟩
        · clear hE0
          go_wp2
          go_ret
          exact ⟨rfl, e2h.out⟩
      · have hok : Fr.oks ls = true := by rw [← hbb, hb2]
        have hE0 : errAll ls = 0 := errAll_ok.2 hok
        have hA : allB ls = all ls := if_pos hE0
        have hsc := scan_any _ _ w2 (hwh.out.ext e2h.out) y1h.out (by have := hbl.out; omega)
        have hs1 : scan (allB ls) = ls := by
          rw [hA]
          have := scan_all ls [] hok
          rwa [List.append_nil, scan_nil, List.append_nil] at this
        rw [hs1, show Fr.size ls = (allB ls).length from by rw [hA, all_length]] at hsc
        clear hs1 hA hok hbb
        go_upto_region 14 with (go_at_call 18; refine hsc.mono ?_; rintro e w3 ⟨r, rfl, x5, rfl, o5, e3⟩)
        have hL := lists_any _ _ _ _ w3 (h2h.out.ext e3) o5.ll
        rw [seqL_true.2 rfl] at hL
        have e3h := Lib.hid (e2h.out.trans e3)
        clear hsc o5 e3
        go_wp2_with (go_at_call 21; refine hL.mono ?_; rintro e w9 ⟨rfl, e9⟩)
        go_ret
        exact ⟨rfl, e3h.out.trans e9⟩
end Go.Proofs.YtmpjcnopakfdmaaDoor
