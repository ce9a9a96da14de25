/- FrameCuts: the walk. -/
import Derived.Test.YtmpjcnopakfdmaaDoorFrK
namespace Go.Proofs.YtmpjcnopakfdmaaDoor
set_option linter.unusedVariables false
set_option linter.unusedSimpArgs false
open Go.RowKit Fr

/-- so many are whole -/
theorem whole_at : ∀ (ls : List (List UInt8)) (j k : Nat), j ≤ ls.length → Fr.size (ls.take j) ≤ k → (∀ hj : j < ls.length, k < Fr.size (ls.take j) + (6 + ls[j].length)) → whole ls k = j
  | [], j, k, hj, _, _ => by
    have : j = 0 := by simpa using hj
    subst this; rfl
  | l :: ls, 0, k, _, _, h => by
    have := h (by simp)
    simp [Fr.size] at this
    exact if_neg (by omega)
  | l :: ls, j + 1, k, hj, hs, h => by
    have hs' : 6 + l.length + Fr.size (ls.take j) ≤ k := hs
    have e : whole (l :: ls) k = 1 + whole ls (k - (6 + l.length)) := if_pos (by omega)
    rw [e, whole_at ls j _ (by simpa using hj) (by omega) (fun hj2 => by
      have := h (by simpa using hj2)
      rw [show (l :: ls).take (j + 1) = l :: ls.take j from rfl, show Fr.size (l :: ls.take j) = 6 + l.length + Fr.size (ls.take j) from rfl] at this
      simp at this
      omega)]
    omega
theorem size_take_le : ∀ (ls : List (List UInt8)) (j : Nat), Fr.size (ls.take j) ≤ Fr.size ls
  | [], j => by simp [Fr.size]
  | l :: ls, 0 => by simp [Fr.size]
  | l :: ls, j + 1 => by
    have := size_take_le ls j
    show 6 + l.length + Fr.size (ls.take j) ≤ 6 + l.length + Fr.size ls
    omega
theorem size_snoc {ls : List (List UInt8)} {j : Nat} (hj : j < ls.length) : Fr.size (ls.take (j + 1)) = Fr.size (ls.take j) + (6 + ls[j].length) := by
  rw [take_snoc hj, Fr.size_append]; rfl
theorem LL.pre {w : World} {a : Option Addr} {n cap : Nat} {ls : List (List UInt8)} (h : LL w (.slice a n cap) ls) (j : Nat) (hj : j ≤ ls.length) : LL w (.slice a j cap) (ls.take j) := by
  obtain ⟨a', cap', e, h2, h3, h4, h5⟩ := h
  cases e
  refine ⟨a, cap, by rw [List.length_take, Nat.min_eq_left hj], by rw [List.length_take]; omega, h3, h4, fun i l hi => ?_⟩
  rw [List.getElem?_take] at hi
  split at hi
  · exact h5 i l hi
  · cases hi
set_option maxRecDepth 20000 in
set_option maxHeartbeats 2000000 in
theorem frameCuts_any (v0 : Value) (ls : List (List UInt8)) (c : Nat) (w : World) (hw : Halves w) (h0 : LL w v0 ls) (hlen : ls.length ≤ 1048576) (hc : c < 65536) :
    Calls Tryd.prog 5 #[v0, .int .u16 (c : Int)] w (LawEnd w) := by
  have haw := awake9_any w hw
  have hwh := Lib.hid hw
  have h0h := Lib.hid h0
  obtain ⟨a0, c0, rfl, -, hget⟩ := h0.get
  have hgh := Lib.hid hget
  have hc0 := Lib.hid (show ls.length ≤ c0 from by obtain ⟨_, _, e, h2, _⟩ := h0; cases e; exact h2)
  clear h0 hget
  obtain ⟨big, hbig⟩ : ∃ big, big = (!fewF ls || !(decide (errAll ls = 0)) || decide ((allB ls).length = 0)) := ⟨_, rfl⟩
  have hbh := Lib.hid hbig
  clear hbig
  go_enter Tryd.func5, Tryd.ntmps5
  go_upto_region 3 with (first
    | (go_at_call 12; refine haw.mono ?_; rintro e w1 ⟨rfl, e1⟩)
    | (go_at_call 13; refine (few09_any _ _ _ (h0h.out.ext e1)).mono ?_; rintro e w1' ⟨rfl, rfl⟩))
  have e1h := Lib.hid e1
  have hq1 := all_any _ _ w1 (hwh.out.ext e1) (h0h.out.ext e1) (by omega)
  clear haw
  go_upto_region 4 with (go_at_call 16; refine hq1.mono ?_; rintro e w2 ⟨r, rfl, x1, rfl, e2, hx1⟩)
  have y1 := allB_of hx1
  obtain ⟨a5, c5, rfl, -⟩ := id y1
  have hc5 := Lib.hid y1.cp.2.1
  have y1h := Lib.hid y1
  have e2h := Lib.hid (e1h.out.trans e2)
  have h2h := Lib.hid ((h0h.out.ext e1).ext e2)
  clear hq1 y1 hx1 e1
  have hlenh := Lib.hid hlen
  clear hlen
  go_cut [6, 8, 32] (fun f e t wd => f = .bool (fewF ls) ∧ e = .int .i64 (errAll ls) ∧ t = .bool big ∧ wd = w2)
  case first =>
    cases hf : fewF ls
    · have hb := Lib.hid (show big = true from by rw [hbh.out, hf]; rfl)
      have hfh := Lib.hid hf
      clear hbh
      go_wp2
      go_meet
      exact ⟨by rw [hfh.out], rfl, by rw [hb.out], rfl⟩
    · have hfh := Lib.hid hf
      by_cases he : errAll ls = 0
      · have hb := Lib.hid (show big = ((allB ls).length == 0) from by rw [hbh.out, hf, decide_eq_true he, Bool.eq_iff_iff]; simp)
        have heh := Lib.hid he
        have q : (errAll ls != 0) = false := by simp [he]
        clear hbh he
        go_wp2
        go_meet
        exact ⟨by rw [hfh.out], rfl, by rw [hb.out]; congr 1; rw [Bool.eq_iff_iff]; simp, rfl⟩
      · have hb := Lib.hid (show big = true from by rw [hbh.out, hf, decide_eq_false he]; rfl)
        have q : (errAll ls != 0) = true := by simp [he]
        clear hbh he
        go_wp2
        go_meet
        exact ⟨by rw [hfh.out], rfl, by rw [hb.out], rfl⟩
  case rest =>
    obtain ⟨rfl, rfl, rfl, rfl⟩ := hcut
    obtain ⟨w2, rfl⟩ : ∃ W, W = wc := ⟨_, rfl⟩
    cases hb : big
    case true =>
      go_wp2
      go_ret
      exact ⟨rfl, e2h.out⟩
    have hbt := hbh.out.symm
    rw [hb] at hbt
    simp only [Bool.or_eq_false_iff, Bool.not_eq_false', decide_eq_false_iff_not, decide_eq_true_eq] at hbt
    obtain ⟨⟨b1, b2⟩, b3⟩ := hbt
    have hbl := allB_len b1
    have hok := errAll_ok.1 b2
    have hA : allB ls = all ls := if_pos b2
    have hAs : (allB ls).length = Fr.size ls := by rw [hA, all_length]
    obtain ⟨K, hK⟩ : ∃ K, K = c % ((allB ls).length + 1) := ⟨_, rfl⟩
    have hKn : K ≤ (allB ls).length := by have := Nat.mod_lt c (show 0 < (allB ls).length + 1 by omega); omega
    have hscan : scan ((allB ls).take K) = ls.take (whole ls K) := by rw [hA]; exact scan_cut ls K hok (by rw [← hAs]; exact hKn)
    have hsc := scan_any _ _ w2 (hwh.out.ext e2h.out) (y1h.out.ini K hKn) (by rw [List.length_take]; omega)
    rw [hscan] at hsc
    have g1 : IntKind.i64.wrap (c : Int) = (c : Int) := wrap_sm hc
    have g2 : IntKind.i64.wrap (((allB ls).length : Int) + 1) = ((allB ls).length : Int) + 1 := wrap_le (by omega) (by omega)
    have g3 : Int.tmod (c : Int) (((allB ls).length : Int) + 1) = (K : Int) := by rw [hK, Int.ofNat_tmod]; rfl
    have g4 : IntKind.i64.wrap (K : Int) = (K : Int) := wrap_sm (by omega)
    have g5 : ((((allB ls).length : Int) + 1) == 0) = false := by rw [beq_eq_false_iff_ne]; omega
    have g6 : ¬ ((allB ls).length : Int) + 1 = 0 := by omega
    have g7 : (K : Int) ≤ (c5 : Int) := by have := hc5.out; omega
    have g8 : (0 : Int) ≤ (K : Int) := by omega
    have hKs := Lib.hid (show K ≤ Fr.size ls from by rw [← hAs]; exact hKn)
    have hbb := Lib.hid hbl
    have hKb := Lib.hid (show K ≤ 2120 from by omega)
    have hAsh := Lib.hid hAs
    clear hbh hK hscan hA hok b1 b2 b3 hAs hKn hbl hb
    go_upto_region 8 with (go_at_call 18; refine hsc.mono ?_; rintro e w3 ⟨r, rfl, x5, rfl, o5, e3⟩)
    have h3h := Lib.hid (h2h.out.ext e3)
    have e3h := Lib.hid (e2h.out.trans e3)
    have y5 := Lib.hid o5.ll
    clear hsc o5 e3 g1 g2 g3 g5 g6
    go_upto_block 0 with fail
    go_cut [12, 13] (fun wh at_ wd => wh = .int .i64 (whole ls K : Int) ∧ at_ = .int .i64 (Fr.size (ls.take (whole ls K)) : Int) ∧ wd = w3)
    case first =>
      go_wp2_with fail
      go_loopw [12, 13] (fun wh at_ wr => ∃ j : Nat, j ≤ ls.length ∧ wh = .int .i64 (j : Int) ∧ at_ = .int .i64 (Fr.size (ls.take j) : Int) ∧ RowKit.Hid (Fr.size (ls.take j) ≤ K) ∧ wr = w3) (fun wh _ _ => ls.length - (intOf wh).toNat)
      case atStart => exact ⟨0, Nat.zero_le _, rfl, rfl, Lib.hid (Nat.zero_le _), rfl⟩
      case round =>
        obtain ⟨j, hj, rfl, rfl, hs, rfl⟩ := hrel
        obtain ⟨w3, rfl⟩ : ∃ W, W = wr := ⟨_, rfl⟩
        by_cases hlt : j < ls.length
        · obtain ⟨g, o, bb, cc, rfl, c1, -⟩ := hgh.out j hlt
          have d1 := e3h.out.cell c1
          have hki : (j : Int) < (ls.length : Int) := by omega
          have hsn := Lib.hid (size_snoc hlt)
          have hwo := Lib.hid (fun (h : K < Fr.size (ls.take j) + (6 + ls[j].length)) => whole_at ls j K hj hs.out (fun _ => h))
          have hle2 := Lib.hid (Nat.le_trans (show Fr.size (ls.take (j + 1)) ≤ Fr.size ls from size_take_le _ _) (show Fr.size ls ≤ 2120 from by have := hbb.out; rw [hAsh.out] at this; exact this))
          rw [hsn.out] at hle2
          have u1 : IntKind.i64.wrap ((Fr.size (ls.take j) : Int) + 6) = (Fr.size (ls.take j) : Int) + 6 := wrap_le (by omega) (by have := hle2.out; omega)
          have u2 : IntKind.i64.wrap ((Fr.size (ls.take j) : Int) + 6 + (ls[j].length : Int)) = (Fr.size (ls.take j) : Int) + 6 + (ls[j].length : Int) := wrap_le (by omega) (by have := hle2.out; omega)
          have u3 : IntKind.i64.wrap ((j : Int) + 1) = (j : Int) + 1 := wrap_le (by omega) (by have := hlenh.out; omega)
          clear c1
          generalize ls[j] = x at *
          by_cases hfit : Fr.size (ls.take j) + (6 + x.length) ≤ K
          · have q : decide ((Fr.size (ls.take j) : Int) + 6 + (x.length : Int) ≤ (K : Int)) = true := by rw [decide_eq_true_iff]; omega
            have hn2 := Lib.hid (show Fr.size (ls.take (j + 1)) ≤ K from by rw [hsn.out]; exact hfit)
            have hn3 := Lib.hid (show ((Fr.size (ls.take (j + 1)) : Nat) : Int) = (Fr.size (ls.take j) : Int) + 6 + (x.length : Int) from by rw [hsn.out]; omega)
            clear hwo hfit
            go_wp2
            go_roundw
            case rel => exact ⟨j + 1, by omega, by go_num, by rw [hn3.out], hn2, trivial⟩
            case measure => simp [intOf]; omega
          · have q : decide ((Fr.size (ls.take j) : Int) + 6 + (x.length : Int) ≤ (K : Int)) = false := by rw [decide_eq_false_iff_not]; omega
            have hw := Lib.hid (hwo.out (by omega))
            clear hwo hfit
            go_wp2
            go_meet
            exact ⟨by rw [hw.out], by rw [hw.out], rfl⟩
        · obtain rfl : j = ls.length := by omega
          have hw := Lib.hid (whole_at ls ls.length K hj hs.out (fun h => absurd h (by omega)))
          go_wp2
          go_meet
          exact ⟨by rw [hw.out], by rw [hw.out], rfl⟩
    case rest =>
      obtain ⟨rfl, rfl, rfl⟩ := hcut
      obtain ⟨w3, rfl⟩ : ∃ W, W = wc := ⟨_, rfl⟩
      have hwl := whole_le ls K
      have hL := lists_any _ _ _ _ w3 y5.out (LL.pre h3h.out (whole ls K) hwl)
      rw [seqL_true.2 rfl] at hL
      have t1 : (whole ls K : Int) ≤ (c0 : Int) := by have := hc0.out; omega
      go_wp2_with (go_at_call 21; refine hL.mono ?_; rintro e w9 ⟨rfl, e9⟩)
      go_ret
      exact ⟨rfl, e3h.out.trans e9⟩
end Go.Proofs.YtmpjcnopakfdmaaDoor
