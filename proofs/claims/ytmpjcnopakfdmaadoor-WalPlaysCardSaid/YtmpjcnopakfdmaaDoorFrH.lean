/- The document's Scan. -/
import Derived.Test.YtmpjcnopakfdmaaDoorFrG
import Derived.Test.YtmpjcnopakfdmaaDoorFrE
import Derived.Deep.QuietTactic
import Derived.BigQuiet
namespace Go.Proofs.YtmpjcnopakfdmaaDoor
set_option linter.unusedVariables false
set_option linter.unusedSimpArgs false
open Go.RowKit Fr

theorem scan_stop {s rest : List UInt8} {pre : List (List UInt8)} (h : s = all pre ++ rest) (ho : Fr.oks pre = true) (hf : fits rest = false) : scan s = pre := by
  rw [h, scan_all _ _ ho, scan_no hf, List.append_nil]
theorem getD_app (a b : List UInt8) (i : Nat) (p : Nat) (hp : a.length = p) : (a ++ b).getD (p + i) 0 = b.getD i 0 := by
  subst hp
  rw [List.getD_eq_getElem?_getD, List.getD_eq_getElem?_getD, List.getElem?_append_right (by omega)]
  congr 2
  omega
theorem Ext.drewM (w : World) : ∀ n, Ext w (w.drewN n)
  | 0 => Ext.refl w
  | n + 1 => (Ext.drewM w n).drew
theorem wrap_le {z : Int} (h0 : 0 ≤ z) (h : z ≤ 4611686018427387904) : IntKind.i64.wrap z = z := by rw [IntKind.wrap_i64]; omega
theorem wrap_sm {n : Nat} (h : n < 65536) : IntKind.i64.wrap (n : Int) = (n : Int) := by rw [IntKind.wrap_i64]; omega
theorem wrap64_sm {n : Nat} (h : n < 65536) : wrap64 (n : Int) = (n : Int) := by unfold wrap64; omega
set_option maxHeartbeats 2000000 in
theorem rscan_any (v : Value) (s : List UInt8) (w : World) (hs : Bytes w v s) (hsl : s.length ≤ 1000000) :
    Calls Tryd.prog 19 #[v] w (Ret fun r w' => ∃ x, r = .tuple #[x, .int .i64 (size (scan s) : Int)] ∧ OwnLL w' w.heap.size (fun k => w.heap.size ≤ k) x (scan s) ∧ Ext w w') := by
  obtain ⟨a, cap, rfl, -⟩ := id hs
  have hcp := hs.cp.2.1
  have hcm := hs.cp.2.2
  unfold maxLen at hcm
  have hsh := Lib.hid hs
  clear hs
  go_enter Tryd.func19, Tryd.ntmps19
  go_wp2
  go_loopw [4, 5] (fun o i wr => ∃ (pre : List (List UInt8)) (rest : List UInt8), RowKit.Hid (s = all pre ++ rest) ∧ RowKit.Hid (Fr.oks pre = true) ∧ i = .int .i64 (size pre : Int) ∧ RowKit.Hid (OwnLL wr w.heap.size (fun k => w.heap.size ≤ k) o pre) ∧ Ext w wr) (fun _ i _ => s.length - (intOf i).toNat)
  case atStart => exact ⟨[], s, Lib.hid rfl, Lib.hid rfl, rfl, Lib.hid (OwnLL.nil _ _ _), Ext.refl w⟩
  case round =>
    obtain ⟨pre, rest, hsp, hok, rfl, ho, ek⟩ := hrel
    obtain ⟨p, hp⟩ : ∃ p, p = size pre := ⟨_, rfl⟩
    have hph := Lib.hid hp
    have hsl2 : s.length = p + rest.length := by rw [hsp.out, List.length_append, all_length, hp]
    rw [← hp]
    have hstop := Lib.hid (fun (h : fits rest = false) => scan_stop hsp.out hok.out h)
    clear hp
    have hwp : IntKind.i64.wrap ((p : Int) + 6) = (p : Int) + 6 := by rw [IntKind.wrap_i64]; omega
    obtain ⟨ao, co, rfl, -⟩ := ho.out.get
    by_cases h6 : rest.length < 6
    · have hE := Lib.hid (hstop.out (by
        cases hf : fits rest with
        | false => rfl
        | true => have := (fits_iff.1 hf).1; omega))
      have q : decide ((p : Int) + 6 ≤ (s.length : Int)) = false := by rw [decide_eq_false_iff_not]; omega
      have oh := Lib.hid ho.out
      have ekh := Lib.hid ek
      clear hstop ho ek
      go_wp2
      go_ret2
      exact Ret.mk ⟨_, by rw [hE.out, ← hph.out]; rfl, by rw [hE.out]; exact oh.out, ekh.out⟩
    have q6 : decide ((p : Int) + 6 ≤ (s.length : Int)) = true := by rw [decide_eq_true_iff]; omega
    obtain ⟨g, o, rfl⟩ := hsh.out.ad (by omega)
    have c0 := ek.cell (hsh.out.gt p (by omega))
    have c1 := ek.cell (hsh.out.gt (p + 1) (by omega))
    have hal : (all pre).length = p := by rw [all_length]; exact hph.out.symm
    have g0 : s.getD p 0 = rest.getD 0 0 := by rw [hsp.out]; exact getD_app _ _ 0 p hal
    have g1 : s.getD (p + 1) 0 = rest.getD 1 0 := by rw [hsp.out]; exact getD_app _ _ 1 p hal
    rw [g0] at c0
    rw [g1] at c1
    have halh := Lib.hid hal
    clear g0 g1 hal
    have hnn := Lib.hid (show nAt rest = n2 (rest.getD 0 0) (rest.getD 1 0) from rfl)
    have hnl := n2_lt (rest.getD 0 0) (rest.getD 1 0)
    have i0 : (p : Int) < (s.length : Int) := by omega
    have i1 : (p : Int) + 1 < (s.length : Int) := by omega
    have i2 : ((p : Int) + 1).toNat = p + 1 := by omega
    have w1 : IntKind.i64.wrap ((p : Int) + 1) = (p : Int) + 1 := by rw [IntKind.wrap_i64]; omega
    generalize hx0 : rest.getD 0 0 = x0 at *
    generalize hx1 : rest.getD 1 0 = x1 at *
    have hx0h := Lib.hid hx0
    have hx1h := Lib.hid hx1
    clear hx0 hx1
    have kb0 := wrap64_byte x0
    have kb1 := wrap64_byte x1
    have kc0 : IntKind.i64.wrap (x0.toNat : Int) = (x0.toNat : Int) := by have := x0.toNat_lt; rw [IntKind.wrap_i64]; omega
    have kc1 : IntKind.i64.wrap (x1.toNat : Int) = (x1.toNat : Int) := by have := x1.toNat_lt; rw [IntKind.wrap_i64]; omega
    have i3 : (0 : Int) ≤ (p : Int) + 1 := by omega
    have k0 : IntKind.i64.wrap (256 * (x0.toNat : Int)) = 256 * (x0.toNat : Int) := by have := x0.toNat_lt; rw [IntKind.wrap_i64]; omega
    have k1 : wrap64 (256 * (x0.toNat : Int)) = 256 * (x0.toNat : Int) := by have := x0.toNat_lt; unfold wrap64; omega
    have k2 : 256 * (x0.toNat : Int) + (x1.toNat : Int) = ((n2 x0 x1 : Nat) : Int) := by unfold n2; omega
    generalize n2 x0 x1 = n at *
    have k3 := wrap64_sm hnl
    have k4 := wrap_sm hnl
    have hs2h := Lib.hid hsl2
    have hcmh := Lib.hid hcm
    clear hsl2 hcm
    go_upto_region 4 with fail
    go_quiet (fail)
    clear c0 c1 k0 k1 k2 k3 kb0 kb1 kc0 kc1
    have ek1 := ek.trans (Ext.drewM wr nq)
    have ho1 := ho.out.ext (Ext.drewM wr nq)
    have hoh := Lib.hid ho1
    have ekh := Lib.hid ek1
    clear ho ek ho1 ek1
    generalize wr.drewN nq = W1 at *
    have wA : IntKind.i64.wrap ((p : Int) + 6) = (p : Int) + 6 := hwp
    have wB : IntKind.i64.wrap ((p : Int) + 6 + (n : Int)) = (p : Int) + 6 + (n : Int) := wrap_le (by omega) (by omega)
    by_cases hlen : rest.length < 6 + n
    · have hE := Lib.hid (hstop.out (by
        cases hf : fits rest with
        | false => rfl
        | true => have := (fits_iff.1 hf).2.2.2.1; rw [hnn.out] at this; omega))
      have q : (s.length : Int) < (p : Int) + 6 + (n : Int) := by have := hs2h.out; omega
      clear hstop
      go_wp2
      go_ret2
      exact Ret.mk ⟨_, by rw [hE.out, ← hph.out]; rfl, by rw [hE.out]; exact hoh.out, ekh.out⟩
    have q : ¬ (s.length : Int) < (p : Int) + 6 + (n : Int) := by have := hs2h.out; omega
    have hrk : (s.drop (p + 6)).take n = rec1 rest := by
      unfold rec1
      rw [hnn.out, hsp.out, List.drop_append, List.drop_of_length_le (by rw [halh.out]; omega), halh.out, List.nil_append, show p + 6 - p = 6 by omega]
    have hrl : (rec1 rest).length = n := by rw [← hrk, List.length_take, List.length_drop]; have := hs2h.out; omega
    have hpn : p + 6 + n ≤ s.length := by have := hs2h.out; omega
    have hRb := Lib.hid (show Bytes W1 (.slice (some ⟨g, o + (p + 6), none⟩) n (cap - (p + 6))) (rec1 rest) from by
      have := (hsh.out.pc (p + 6) n (by omega)).ext ekh.out
      rwa [hrk] at this)
    have hfit := Lib.hid (show (fits rest = true) ↔ (errOf (rec1 rest) = 0 ∧ seq (frm (rec1 rest)) (rest.take (6 + n)) = true) from by
      rw [fits_iff, seq_true, hnn.out, errOf_ok, ok_iff, hrl]
      exact ⟨fun h => ⟨⟨h.2.1, h.2.2.1⟩, h.2.2.2.2⟩, fun h => ⟨by omega, h.1.1, h.1.2, by omega, h.2⟩⟩)
    have hrlh := Lib.hid hrl
    have hrkh := Lib.hid hrk
    clear hrk hrl
    have s1 : (0 : Int) ≤ (p : Int) + 6 := by omega
    have s2 : (p : Int) + 6 ≤ (p : Int) + 6 + (n : Int) := by omega
    have s3 : (p : Int) + 6 + (n : Int) ≤ (cap : Int) := by omega
    go_upto_region 6 with fail
    have hnb := Lib.hid (show cap = p + 6 → Bytes W1 (.slice (some ⟨g, o, none⟩) n 0) (rec1 rest) from fun hcz => by
      have hn0 : n = 0 := by omega
      have hR : rec1 rest = [] := List.eq_nil_of_length_eq_zero (by rw [hrlh.out, hn0])
      rw [hR, hn0]
      exact ⟨_, 0, rfl, Nat.le_refl _, Nat.zero_le _, fun h => rfl, fun j hj => absurd hj (Nat.not_lt_zero _)⟩)
    go_cut [0, 7] (fun v0 v wd => v0 = .slice (some ⟨g, o, none⟩) s.length cap ∧ ∃ v2, v2 = v ∧ Bytes W1 v2 (rec1 rest) ∧ wd = W1)
    case first =>
      by_cases hcz : cap = p + 6
      · have hczh := Lib.hid hcz
        go_wp2
        all_goals go_meet
        exact ⟨by rw [hczh.out], _, rfl, hnb.out hczh.out, rfl⟩
      · go_wp2
        go_meet
        exact ⟨rfl, _, rfl, hRb.out, rfl⟩
    case rest =>
      obtain ⟨rfl, x, rfl, hxb, rfl⟩ := hcut
      obtain ⟨W1, rfl⟩ : ∃ W, W = wc := ⟨_, rfl⟩
      have hrp := rput_any _ _ W1 hxb
      have hxbh := Lib.hid hxb
      obtain ⟨ax, cx, rfl, -⟩ := id hxb
      clear hxb hRb hnb
      by_cases hEr : errOf (rec1 rest) = 0
      case neg =>
        have hE := Lib.hid (hstop.out (by
          cases hf : fits rest with
          | false => rfl
          | true => exact absurd (hfit.out.1 hf).1 hEr))
        have q3 : (errOf (rec1 rest) != 0) = true := by simp [hEr]
        have hErh := Lib.hid hEr
        clear hEr hstop
        go_upto_region 8 with (go_at_call 15; refine hrp.mono ?_; rintro e W2 ⟨r, rfl, x1, rfl, e2, -⟩)
        go_quiet (fail)
        go_wp2
        go_ret2
        exact Ret.mk ⟨_, by rw [hE.out, ← hph.out]; rfl, by rw [hE.out]; exact (hoh.out.ext e2).ext (Ext.drewM _ _), (ekh.out.trans e2).trans (Ext.drewM _ _)⟩
      have hst : (s.drop p).take (6 + n) = rest.take (6 + n) := by
        rw [hsp.out, List.drop_append, List.drop_of_length_le (by rw [halh.out]; omega), halh.out, List.nil_append, Nat.sub_self]; rfl
      have hpb := Lib.hid (show Bytes W1 (.slice (some ⟨g, o + p, none⟩) (6 + n) (cap - p)) (rest.take (6 + n)) from by
        have := (hsh.out.pc p (6 + n) (by omega)).ext ekh.out
        rwa [hst] at this)
      rw [hEr] at hrp
      have hstopF := Lib.hid (fun (h : seq (frm (rec1 rest)) (rest.take (6 + n)) = false) => hstop.out (by
          cases hf : fits rest with
          | false => rfl
          | true => have := (hfit.out.1 hf).2; rw [h] at this; cases this))
      have s4 : (0 : Int) ≤ (p : Int) := by omega
      have s5 : (p : Int) ≤ (p : Int) + 6 + (n : Int) := by omega
      clear hst
      go_upto_region 8 with (go_at_call 15; refine hrp.mono ?_; rintro e W2 ⟨r, rfl, x1, rfl, e2, ⟨-, hx1⟩ | ⟨hx1, -⟩⟩; rotate_left; exact absurd rfl hx1)
      have k1 := fun n => conv_bytes (hx1.bytes.ext (Ext.drewM W2 n))
      have k2 := fun n => conv_bytes ((hpb.out.ext e2).ext (Ext.drewM W2 n))
      have t1 : ((p : Int) + 6 + (n : Int)).toNat - p = 6 + n := by omega
      have t2 : cap ≠ p := by omega
      cases hsq : seq (frm (rec1 rest)) (rest.take (6 + n))
      · have hE := Lib.hid (hstopF.out hsq)
        have q7 : (!seq (frm (rec1 rest)) (rest.take (6 + n))) = true := by rw [hsq]; rfl
        go_quiet (fail)
        go_wp2
        go_ret2
        exact Ret.mk ⟨_, by rw [hE.out, ← hph.out]; rfl, by rw [hE.out]; exact (hoh.out.ext e2).ext (Ext.drewM _ _), (ekh.out.trans e2).trans (Ext.drewM _ _)⟩
      · have q7 : (!seq (frm (rec1 rest)) (rest.take (6 + n))) = false := by rw [hsq]; rfl
        go_quiet (fail)
        have hfitT := hfit.out.2 ⟨hEr, hsq⟩
        have hoh3 := Lib.hid ((hoh.out.ext e2).ext (Ext.drewM W2 nq))
        have hxb3 := Lib.hid ((hxbh.out.ext e2).ext (Ext.drewM W2 nq))
        have e3 := Lib.hid ((ekh.out.trans e2).trans (Ext.drewM W2 nq))
        have hok1 := ok_iff.1 (rec1_ok hfitT)
        have hpos := Lib.hid hok1.1
        have hnew := Lib.hid (show s = all (pre ++ [rec1 rest]) ++ rest.drop (6 + n) from by
          rw [all_append, List.append_assoc, hsp.out]
          congr 1
          have := fits_split hfitT
          rw [hnn.out] at this
          show rest = (frm (rec1 rest) ++ []) ++ _
          rw [List.append_nil]; exact this)
        have hoks := Lib.hid (show Fr.oks (pre ++ [rec1 rest]) = true from by
          unfold Fr.oks
          rw [List.all_append, Bool.and_eq_true]
          exact ⟨hok.out, by simp [rec1_ok hfitT]⟩)
        have hsz9 := Lib.hid (show size (pre ++ [rec1 rest]) = p + 6 + n from by
          rw [Fr.size_append, ← hph.out]
          show p + (6 + (rec1 rest).length + 0) = _
          rw [hrlh.out]; omega)
        have hpl := Lib.hid (show pre.length ≤ 1000000 from by
          have key : ∀ ls : List (List UInt8), ls.length ≤ size ls := fun ls => by
            induction ls with
            | nil => exact Nat.le_refl _
            | cons a ls ih => rw [List.length_cons, show Fr.size (a :: ls) = 6 + a.length + Fr.size ls from rfl]; omega
          have := key pre
          rw [← hph.out] at this
          omega)
        have hb0 := Lib.hid (show w.heap.size ≤ (W2.drewN nq).heap.size from e3.out.size)
        have hrl2 := Lib.hid (show (rec1 rest).length < 65536 from by rw [hrlh.out]; exact hnl)
        clear k1 k2 hrp hx1 hEr hsq q7 e2 hok1 hstopF hstop hfit hpb hoh hxbh ekh hrkh
        generalize W2.drewN nq = W3 at *
        generalize rec1 rest = R at *
        go_wp2_with (first
          | (at_builtin; refine wpList_appendB rfl (.tmp 64) (.tmp 65) rfl W3.heap.size _ [] rfl (OwnB.empty rfl (Nat.le_refl _)) _ R rfl (hxb3.out.ext ((Ext.refl W3).alloc _)) (by have := hrl2.out; simp; omega) ((Ext.refl W3).alloc _).size ?_; intro v4 W4 o4 g4; obtain ⟨g5, c5, rfl, hg5, hl5, -, -, -⟩ := o4.cells hpos.out; have e4 := Lib.hid (((Ext.refl W3).alloc (.cells #[] 5)).grown g4 fun k hk => by cases hk; exact Nat.le_refl _); have oLL := (hoh3.out.ext e4.out).ext ((Ext.refl W4).alloc (.cells #[.slice (some ⟨g5, 0, none⟩) R.length c5] 22)); have hne := oLL.not_u8 (o4.u8.ext ((Ext.refl W4).alloc _)))
          | (at_builtin; go_must (refine wpList_appendLL rfl (.tmp 63) (.tmp 67) rfl w.heap.size (fun k => w.heap.size ≤ k) _ pre rfl oLL _ _ rfl (.slice (some ⟨g5, 0, none⟩) R.length c5) R (cell_one_new _ _ _ 0 _ rfl) rfl (o4.bytes.ext ((Ext.refl W4).alloc _)) (fun k hk _ => by have e : k = g5 := (by cases hk; rfl); subst e; exact ⟨Nat.le_trans hb0.out hg5, hne⟩) (by have := hpl.out; omega) (Nat.le_trans (Nat.le_trans hb0.out e4.out.size) ((Ext.refl W4).alloc _).size) ?_); intro v6 W6 o6 g6))
        go_roundw
        case rel => exact ⟨pre ++ [R], rest.drop (6 + n), hnew, hoks, by rw [hsz9.out]; go_num, Lib.hid o6, ((e3.out.trans e4.out).alloc _).grown g6 fun k hk => oLL.own_lt k hk |>.1⟩
        case measure => simp [intOf]; omega
end Go.Proofs.YtmpjcnopakfdmaaDoor
