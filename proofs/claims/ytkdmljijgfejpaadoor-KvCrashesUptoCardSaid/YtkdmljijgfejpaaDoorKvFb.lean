/- KvCrashes: the walk. -/
import Derived.Test.YtkdmljijgfejpaaDoorKvFa
namespace Go.Proofs.YtkdmljijgfejpaaDoor
set_option linter.unusedVariables false
set_option linter.unusedSimpArgs false
open Go.RowKit Kv Dk Wl Fr

set_option maxRecDepth 20000 in
set_option maxHeartbeats 4000000 in
/-- what After gives: what it was given, or a slice of its own -/
theorem refAfter2_any (v u : Value) (l : List Pr) (cs : List Ch) (w : World) (h : Prs w v l) (hc : Chs w u cs) (hl : l.length + cs.length ≤ 100000) (hs : Srt l) :
    Calls Tryd.prog 24 #[v, u] w (Ret fun r w' => Prs w' r (after l cs) ∧ ((cs = [] ∧ r = v) ∨ OwnP w' (fun j => w.heap.size ≤ j) r (after l cs)) ∧ Ext w w') := by
  obtain ⟨a, cap, rfl, hlm, hget⟩ := hc.shape
  have hgh := Lib.hid hget
  have hh := Lib.hid h
  have hsh := Lib.hid hs
  have e0 := Ext.refl w
  clear hget hs h
  go_enter Tryd.func24, Tryd.ntmps24
  go_wp2
  go_loopw [0, 5] (fun r i wr => ∃ k : Nat, k ≤ cs.length ∧ i = .int .i64 (k : Int) ∧ RowKit.Hid (Prs wr r (after l (cs.take k))) ∧ RowKit.Hid ((k = 0 ∧ r = v) ∨ OwnP wr (fun j => w.heap.size ≤ j) r (after l (cs.take k))) ∧ Ext w wr) (fun _ i _ => cs.length - (intOf i).toNat)
  case atStart => exact ⟨0, Nat.zero_le _, rfl, Lib.hid (by rw [List.take_zero]; exact hh.out), Lib.hid (.inl ⟨rfl, rfl⟩), e0⟩
  case round =>
    obtain ⟨k, hk, rfl, ho, hq, ek⟩ := hrel
    by_cases hlt : k < cs.length
    · obtain ⟨g, o, rfl, hr, hf⟩ := hgh.out k cs[k] (List.getElem?_eq_getElem hlt)
      have hki : (k : Int) < (cs.length : Int) := by omega
      have hw : IntKind.i64.wrap ((k : Int) + 1) = (k : Int) + 1 := by rw [IntKind.wrap_i64]; omega
      have hnx := Lib.hid (after_take (l := l) hlt)
      have hrw : wr.rangeAt g (o + k * 3) [.string (str cs[k].k), .string (str cs[k].v), .bool cs[k].g] := fun j u hu => ek.cell (hr j u hu)
      have hP := refPut_any _ _ cs[k] wr ho.out hf (by have := after_len2 l cs k hk; omega) (after_srt _ hsh.out)
      generalize cs[k] = x at *
      generalize after l (cs.take k) = L at *
      obtain ⟨ao, co, rfl, -⟩ := ho.out.shape
      clear hr hq
      go_wp2_with (first
        | (refine wpList_load_mid rfl 26 _ rfl g (o + k * 3) rfl [.string (str x.k), .string (str x.v), .bool x.g] _ hrw Tryd.underlying26 rfl info_ch ?_)
        | (go_at_call 45; refine hP.mono ?_; rintro e w2 ⟨r, rfl, o2, e2⟩))
      go_roundw
      case rel => exact ⟨k + 1, by omega, by go_num, Lib.hid (by rw [hnx.out]; exact o2.rs (by decide) prc_len), Lib.hid (.inr (by rw [hnx.out]; exact o2.mono fun j hj => Nat.le_trans ek.size hj)), ek.trans e2⟩
      case measure => simp [intOf]; omega
    · obtain rfl : k = cs.length := by omega
      rw [List.take_length] at ho hq
      go_wp2
      go_ret
      exact Ret.mk ⟨ho.out, hq.out.imp (fun h => ⟨List.eq_nil_of_length_eq_zero h.1, h.2⟩) id, ek⟩

attribute [local irreducible] kw comL opL Kv.after openE openH openU
set_option maxRecDepth 20000 in
set_option maxHeartbeats 4000000 in
theorem kvCrashes_any (blocks : UInt8) (v1 : Value) (l : List Kop) (v2 : Value) (c : List Ch) (sb : UInt8) (v5 : Value) (cuts : List UInt8) (w : World) (hw : Halves w) (h1 : Kops w v1 l) (hn1 : l.length ≤ 1048576) (h2 : Chs w v2 c) (h5 : Bytes w v5 cuts) :
    Calls Tryd.prog 6 #[.int .u8 (blocks.toNat : Int), v1, v2, .int .u8 (sb.toNat : Int), v5] w (LawEnd w) := by
  have haw := awake11_any w hw
  have hwh := Lib.hid hw
  have h1h := Lib.hid h1
  have h2h := Lib.hid h2
  have h5h := Lib.hid h5
  obtain ⟨a1, c1, rfl, m1, -⟩ := h1.shape
  obtain ⟨a2, c2, rfl, m2, -⟩ := h2.shape
  obtain ⟨a5, c5, rfl, -⟩ := h5
  obtain ⟨u1, u2, u3⟩ := rem61 sb
  have hsn := Lib.hid (show sb.toNat % 61 < 61 from Nat.mod_lt _ (by decide))
  generalize sb.toNat % 61 = sn at *
  clear h1 h2 hw
  have hX := Lib.hid (fun W (e : Ext w W) => show KopC W ⟨0, 0, c, [], cuts⟩ [.int .i64 0, .int .i64 0, .slice a2 c.length c2, .slice none 0 0, .slice a5 cuts.length c5] from ⟨_, _, _, rfl, h2h.out.ext e, Sl.nil _, h5h.out.ext e⟩)
  go_enter Tryd.func6, Tryd.ntmps6
  go_upto_region 2 with (go_at_call 8; refine haw.mono ?_; rintro e w1 ⟨rfl, e1⟩)
  have hK1 := h1h.out.ext e1
  have e1h := Lib.hid e1
  clear haw
  go_upto_region 3 with (first
    | (at_builtin; refine wpList_appendKops rfl (.tmp 25) (.tmp 26) rfl w1 ⟨0, 0, c, [], cuts⟩ [.int .i64 0, .int .i64 0, .slice a2 c.length c2, .slice none 0 0, .slice a5 cuts.length c5] rfl (hX.out w1 e1) (.slice a1 l.length c1) l hK1 hn1 rfl rfl ?_; intro v3 w2 o2 e2)
    | (go_at_call 21; refine (fewK_any _ _ _ o2).mono ?_; rintro e w2' ⟨rfl, rfl⟩))
  have e2h := Lib.hid (e1h.out.trans e2)
  clear hX hK1 o2 e1 e2
  cases hfw : fewK (⟨0, 0, c, [], cuts⟩ :: l)
  · go_wp2
    go_ret
    exact ⟨rfl, e2h.out⟩
  obtain ⟨k1, k2, k3⟩ := fewK_cons hfw
  have hc12 := Lib.hid (show c.length ≤ 12 from okK_ls k1)
  have hWk := walked11_any blocks (.slice a1 l.length c1) l w2 (h1h.out.ext e2h.out) k2 (by omega) (hwh.out.ext e2h.out)
  obtain ⟨q1, q2, q3, q4⟩ := kw_KI (nB_le blocks).1 (Nat.le_trans (nB_le blocks).2 (by decide)) (cutAt cuts 0) l k2
  have hKI := Lib.hid q1
  have hL := Lib.hid (show (kw (nB blocks) l).2.length ≤ 240 from by omega)
  clear k1 k2 k3 q1 q2 q3 q4 hfw
  generalize kw (nB blocks) l = S at *
  obtain ⟨g, L⟩ := S
  dsimp only at hWk hKI hL
  have hcf := Lib.hid (com_stop hKI.out c sn cuts rfl)
  go_upto_region 6 with (go_at_call 22; refine hWk.mono ?_; rintro e w3 ⟨r, rfl, p, s, rfl, e3, k3⟩)
  have k3h := Lib.hid k3.bound
  have e23 := Lib.hid e3
  have e3h := Lib.hid (e2h.out.trans e3)
  clear hWk e3 k3
  have hAl := kvAll_any k3h.out hKI.out.oks (by have := hL.out; omega)
  go_upto_region 8 with fail
  go_upto_region 9 with (go_at_call 19; refine hAl.mono ?_; rintro e w4 ⟨wa, rfl, o4, e4⟩)
  obtain ⟨aw, cw, rfl, -⟩ := o4.shape
  have hAf := refAfter2_any _ _ L c w4 (o4.rs (by decide) prc_len) (h2h.out.ext (e3h.out.trans e4)) (by have := hL.out; have := hc12.out; omega) hKI.out.srt
  go_upto_region 10 with (go_at_call 24; refine hAf.mono ?_; rintro e w5 ⟨nx, rfl, p5, q5, e5⟩)
  obtain ⟨an, cn, rfl, -⟩ := p5.shape
  have e35 := Lib.hid (e4.trans e5)
  have e05 := Lib.hid (e3h.out.trans e35.out)
  have e25 := Lib.hid (e23.out.trans e35.out)
  have o5h := Lib.hid ((o4.ext e5).lt')
  have q5h := Lib.hid (show OwnP w5 (fun j => w3.heap.size ≤ j ∧ j < w5.heap.size) (.slice an (after L c).length cn) (after L c) from by
    rcases q5 with ⟨hc0, hv⟩ | hq
    · have hal : after L c = L := by subst hc0; unfold Kv.after; rfl
      rw [hv, hal]
      exact (o4.ext e5).lt'
    · exact hq.lt'.mono fun j hj => ⟨Nat.le_trans e4.size hj.1, hj.2⟩)
  have hs35 := Lib.hid (And.intro e23.out.size e35.out.size)
  clear hAl hAf o4 e4 e5 p5 q5
  obtain ⟨A, hA⟩ : ∃ A : Nat → Prop, A = fun k => (w2.heap.size ≤ k ∧ k < w3.heap.size) ∨ w5.heap.size ≤ k := ⟨_, rfl⟩
  have hAw := Lib.hid (show ∀ k, A k → w2.heap.size ≤ k from fun k hk => by rw [hA] at hk; obtain ⟨x1, x2⟩ := hs35.out; rcases hk with h | h <;> omega)
  have hAn := Lib.hid (show ∀ k, w3.heap.size ≤ k ∧ k < w5.heap.size → ¬ A k from fun k hk h => by rw [hA] at h; rcases h with h | h <;> omega)
  have hhA := Lib.hid (show ¬ A 1 from fun h => not_from (hwh.out.ext e2h.out) (hAw.out _ h))
  have hAe := Lib.hid (show ∀ W : World, w5.heap.size ≤ W.heap.size → ∀ k, grow A W k → A k from fun W hW k hk => by
    rw [hA] at hk ⊢
    rcases hk with h | h
    · exact h
    · exact .inr (Nat.le_trans hW h))
  have k5 := Lib.hid (show StM w5 A s p g L from (k3h.out.ext e35.out).mono fun k hk => by rw [hA]; exact .inl hk)
  have hEx := Lib.hid (show ∀ W, Chg A w5 W → Ext w W from fun W d => e2h.out.trans (e25.out.chg d hAw.out))
  have hwas := Lib.hid (show ∀ W, Chg A w5 W → Prs W (.slice aw L.length cw) L from fun W d => (o5h.out.chg d hAn.out).rs (by decide) prc_len)
  have hnxt := Lib.hid (show ∀ W, Chg A w5 W → Prs W (.slice an (after L c).length cn) (after L c) from fun W d => (q5h.out.chg d hAn.out).rs (by decide) prc_len)
  have hF1 := kvStop_m k5.out (sn : Int) (by omega) (by have := hsn.out; omega)
  clear hA k3h o5h q5h hAn hAw
  go_upto_region 11 with (go_at_call 26; refine hF1.mono ?_; rintro e w6 ⟨rfl, d6, k6⟩)
  have d6h := Lib.hid d6
  have k6h := Lib.hid (k6.mono (hAe.out _ (Nat.le_refl _)))
  clear hF1 d6 k6
  have hCm := kvCommit_any k6h.out (hKI.out.sane.disk rfl) (by show (stop (sn : Int) g.d).st.length ≤ _; rw [show (stop (sn : Int) g.d).st = g.d.st from rfl, hKI.out.st]; exact Nat.zero_le _) (hwh.out.ext (hEx.out _ d6h.out)) hhA.out (h2h.out.ext (hEx.out _ d6h.out)) (by have := hL.out; have := hc12.out; omega) (by have := hc12.out; omega) hKI.out.oks (fun _ => snapOk_any)
  generalize comL c ⟨stop (sn : Int) g.d, g.h, g.u⟩ L = R at *
  obtain ⟨E, g7, M⟩ := R
  dsimp only at hCm hcf
  go_upto_region 12 with (go_at_call 18; refine hCm.mono ?_; rintro e w7 ⟨rfl, d7, k7⟩)
  have d7h := Lib.hid (d6h.out.trans d7)
  have k7h := Lib.hid (k7.mono (hAe.out _ d6h.out.size))
  clear hCm d7 k7
  have hF2 := kvCrash_m k7h.out (.slice a5 cuts.length c5) cuts (fun W d => h5h.out.ext (hEx.out W (d7h.out.trans d)))
  go_upto_region 13 with (go_at_call 27; refine hF2.mono ?_; rintro e w8 ⟨rfl, d8, k8⟩)
  have d8h := Lib.hid (d7h.out.trans d8)
  have k8h := Lib.hid (k8.mono (hAe.out _ d7h.out.size))
  clear hF2 d8 k8
  obtain ⟨L', f1, f2, f3⟩ := hcf.out
  have hg' := Lib.hid (play_good _ _ f2)
  have hMl := Lib.hid (show L'.length ≤ 252 from by
    have h1 := after_len c L
    have := hL.out
    have := hc12.out
    rcases f3 with ⟨-, e⟩ | ⟨-, e⟩ | ⟨-, e⟩ <;> rw [e] <;> omega)
  have f3h := Lib.hid f3
  have hOp := kvOpen_m k8h.out (hwh.out.ext (hEx.out _ d8h.out)) f1 f2
  clear f3 hcf
  go_upto_region 14 with (go_at_call 16; refine hOp.mono ?_; rintro e w9 ⟨r, rfl, s', rfl, e9, k9⟩)
  have hAk := kvAll_any k9 hg'.out.2 (by have := hMl.out; omega)
  go_upto_region 16 with fail
  go_upto_region 17 with (go_at_call 19; refine hAk.mono ?_; rintro e w10 ⟨x1, rfl, o1, e10⟩)
  obtain ⟨ax, cx, rfl, -⟩ := o1.shape
  have d10h := Lib.hid ((d8h.out.ext e9).ext e10)
  have ow := Lib.hid (hwas.out w10 d10h.out)
  have on_ := Lib.hid (hnxt.out w10 d10h.out)
  have oo := Lib.hid (o1.rs (by decide) prc_len)
  have he := Lib.hid (fun W (e : Ext w10 W) => hEx.out W (d10h.out.ext e))
  clear hOp f1 f2 e9 e10 k9 hAk o1
  have hP1 := Lib.hid (refPrs_any _ _ _ _ w10 oo.out ow.out)
  have hP2 := Lib.hid (fun W (e : Ext w10 W) => refPrs_any _ _ _ _ W (oo.out.ext e) (on_.out.ext e))
  by_cases hE0 : E = 0
  · subst hE0
    have hL' : L' = after L c := by
      rcases f3h.out with ⟨-, e⟩ | ⟨e, -⟩ | ⟨e, -⟩
      · exact e
      · exact absurd rfl e
      · cases e
    have hP := hP2.out w10 (Ext.refl _)
    have hEq : eqB L' (after L c) = true := eqB_true.2 hL'
    rw [hEq] at hP
    clear hEq hL' hP1 hP2
    go_wp2_with (go_at_call 20; refine hP.mono ?_; rintro e w11 ⟨rfl, e11⟩)
    go_ret
    exact ⟨rfl, he.out w11 e11⟩
  · have hEb := beq_ff hE0
    by_cases hE21 : E = 21
    · subst hE21
      have hLL : L' = L ∨ L' = after L c := by
        rcases f3h.out with ⟨e, -⟩ | ⟨-, e⟩ | ⟨-, e⟩
        · cases e
        · exact .inl e
        · exact .inr e
      have hP := hP1.out
      clear hE0 hEb
      cases hq : eqB L' L
      · have hEq : eqB L' (after L c) = true := eqB_true.2 (hLL.resolve_left (eqB_false.1 hq))
        rw [hq] at hP
        rw [hEq] at hP2
        clear hq hEq hLL hP1
        go_wp2_with (go_at_call 20; first
          | (refine hP.mono ?_; rintro e w11 ⟨rfl, e11⟩; clear hP; have hQ := hP2.out w11 e11)
          | (refine hQ.mono ?_; rintro e w12 ⟨rfl, e12⟩))
        go_ret
        exact ⟨rfl, he.out w12 (e11.trans e12)⟩
      · rw [hq] at hP
        clear hq hLL hP1 hP2
        go_wp2_with (go_at_call 20; refine hP.mono ?_; rintro e w11 ⟨rfl, e11⟩)
        go_ret
        exact ⟨rfl, he.out w11 e11⟩
    · have hEc := beq_ff hE21
      have hL' : L' = L := by
        rcases f3h.out with ⟨e, -⟩ | ⟨-, e⟩ | ⟨e, -⟩
        · exact absurd e hE0
        · exact e
        · exact absurd e hE21
      have hP := hP1.out
      have hEq : eqB L' L = true := eqB_true.2 hL'
      rw [hEq] at hP
      clear hEq hL' hP1 hP2 hE0 hE21
      go_wp2_with (go_at_call 20; refine hP.mono ?_; rintro e w11 ⟨rfl, e11⟩)
      go_ret
      exact ⟨rfl, he.out w11 e11⟩
end Go.Proofs.YtkdmljijgfejpaaDoor
