/- KvCompacts: the walk. -/
import Derived.Test.YtkdmljijgfejpaaDoorKvFa
namespace Go.Proofs.YtkdmljijgfejpaaDoor
set_option linter.unusedVariables false
set_option linter.unusedSimpArgs false
open Go.RowKit Kv Dk Wl Fr

theorem cpt_ok {c : Nat} {g : Lg} {L : List Kv.Pr} (h : KI c g L) (h0 : (opL (.rep (snap L)) g).1 = 0) : (opL (.rep (snap L)) g).2.h.used = Fr.size (snap L) ∧ Fr.size (snap L) ≤ 32 * areaN g.d.n := by
  obtain ⟨rs, l, hp⟩ := h
  rcases op_calm (.rep (snap L)) l with ⟨e, h1, h2, h3⟩ | ⟨d', h', u', i0, h1, h2, h3, h4⟩
  · rw [h2] at h0
    have h0' : e = 0 := h0
    omega
  · rcases planL_rep (snap L) g.d.n g.h g.u with ⟨_, q⟩ | ⟨_, _, q⟩ | ⟨_, hq, q⟩
    · rw [q] at h1; cases h1
    · rw [q] at h1; cases h1
    · rw [q] at h1
      simp only [Sum.inr.injEq, Prod.mk.injEq] at h1
      obtain ⟨rfl, -, -⟩ := h1
      rw [h2]
      exact ⟨rfl, by omega⟩
theorem cpt_again {c : Nat} {g : Lg} {L : List Kv.Pr} (h : KI c g L) (hs : Fr.size (snap L) ≤ 32 * areaN g.d.n) (hg : g.h.gen + 1 < 262144) : (opL (.rep (snap L)) g).1 = 0 := by
  have ho := h.oks
  obtain ⟨rs, l, hp⟩ := h
  rcases op_calm (.rep (snap L)) l with ⟨e, h1, h2, h3⟩ | ⟨d', h', u', i0, h1, h2, h3, h4⟩
  · rcases planL_rep (snap L) g.d.n g.h g.u with ⟨q1, _⟩ | ⟨_, hq, _⟩ | ⟨_, _, q⟩
    · exact absurd (errAll_snap ho) q1
    · omega
    · rw [q] at h1; cases h1
  · rw [h2]
theorem cpt_stop {c : Nat} {g : Lg} {L : List Kv.Pr} (h : KI c g L) (hs : Fr.size (snap L) ≤ 32 * areaN g.d.n) (hg : g.h.gen + 1 < 262144) (s : Nat) (cuts : List UInt8) (hc : cutAt cuts 0 = c) :
    let r := opL (.rep (snap L)) ⟨stop s g.d, g.h, g.u⟩
    (r.1 = 0 ∨ r.1 = 21) ∧ openE (crash cuts r.2.d) = 0 ∧ play (scan (openU (crash cuts r.2.d))) = some L := by
  show ((opL (.rep (snap L)) ⟨stop s g.d, g.h, g.u⟩).1 = 0 ∨ _) ∧ _
  have ho := h.oks
  have hsr := h.srt
  obtain ⟨rs, l, hp⟩ := h
  refine ⟨?_, ?_⟩
  · unfold opL
    rcases planL_rep (snap L) g.d.n g.h g.u with ⟨q1, _⟩ | ⟨_, hq, _⟩ | ⟨_, _, q⟩
    · exact absurd (errAll_snap ho) q1
    · omega
    · have q' : planL (.rep (snap L)) (⟨stop s g.d, g.h, g.u⟩ : Lg).d.n (⟨stop s g.d, g.h, g.u⟩ : Lg).h (⟨stop s g.d, g.h, g.u⟩ : Lg).u = _ := q
      rw [q']
      simp only [putL]
      split
      · exact .inl rfl
      · exact .inr rfl
  · obtain ⟨-, -, hh, u, hk⟩ := op_stop (.rep (snap L)) l s cuts hc
    rcases hk with ⟨-, f2⟩ | ⟨-, f2⟩ | ⟨-, f2⟩
    · exact found_crash f2 (play_snap hsr ho)
    · exact found_crash f2 hp
    · exact found_crash f2 (play_snap hsr ho)
attribute [local irreducible] kw comL opL Kv.after openE openH openU
set_option maxRecDepth 20000 in
set_option maxHeartbeats 4000000 in
theorem kvCompacts_any (blocks : UInt8) (v1 : Value) (l : List Kop) (sb : UInt8) (v5 : Value) (cuts : List UInt8) (w : World) (hw : Halves w) (h1 : Kops w v1 l) (hn1 : l.length ≤ 1048576) (h5 : Bytes w v5 cuts) :
    Calls Tryd.prog 7 #[.int .u8 (blocks.toNat : Int), v1, .int .u8 (sb.toNat : Int), v5] w (LawEnd w) := by
  have haw := awake11_any w hw
  have hwh := Lib.hid hw
  have h1h := Lib.hid h1
  have h5h := Lib.hid h5
  obtain ⟨a1, c1, rfl, m1, -⟩ := h1.shape
  obtain ⟨a5, c5, rfl, -⟩ := h5
  obtain ⟨u1, u2, u3⟩ := rem61 sb
  have hsn := Lib.hid (show sb.toNat % 61 < 61 from Nat.mod_lt _ (by decide))
  generalize sb.toNat % 61 = sn at *
  clear h1 hw
  have hX := Lib.hid (fun W (e : Ext w W) => show KopC W ⟨0, 0, [], [], cuts⟩ [.int .i64 0, .int .i64 0, .slice none 0 0, .slice none 0 0, .slice a5 cuts.length c5] from ⟨_, _, _, rfl, Rs.nil _, Sl.nil _, h5h.out.ext e⟩)
  go_enter Tryd.func7, Tryd.ntmps7
  go_upto_region 2 with (go_at_call 8; refine haw.mono ?_; rintro e w1 ⟨rfl, e1⟩)
  have hK1 := h1h.out.ext e1
  have e1h := Lib.hid e1
  clear haw
  go_upto_region 3 with (first
    | (at_builtin; refine wpList_appendKops rfl (.tmp 25) (.tmp 26) rfl w1 ⟨0, 0, [], [], cuts⟩ [.int .i64 0, .int .i64 0, .slice none 0 0, .slice none 0 0, .slice a5 cuts.length c5] rfl (hX.out w1 e1) (.slice a1 l.length c1) l hK1 hn1 rfl rfl ?_; intro v3 w2 o2 e2)
    | (go_at_call 21; refine (fewK_any _ _ _ o2).mono ?_; rintro e w2' ⟨rfl, rfl⟩))
  have e2h := Lib.hid (e1h.out.trans e2)
  clear hX hK1 o2 e1 e2
  cases hfw : fewK (⟨0, 0, [], [], cuts⟩ :: l)
  · go_wp2
    go_ret
    exact ⟨rfl, e2h.out⟩
  obtain ⟨-, k2, k3⟩ := fewK_cons hfw
  have hWk := walked11_any blocks (.slice a1 l.length c1) l w2 (h1h.out.ext e2h.out) k2 (by omega) (hwh.out.ext e2h.out)
  obtain ⟨q1, q2, q3, q4⟩ := kw_KI (nB_le blocks).1 (Nat.le_trans (nB_le blocks).2 (by decide)) (cutAt cuts 0) l k2
  have hKI := Lib.hid q1
  have hL := Lib.hid (show (kw (nB blocks) l).2.length ≤ 240 from by omega)
  have hgen := Lib.hid (show (kw (nB blocks) l).1.h.gen ≤ 20 from by omega)
  clear k2 k3 q1 q2 q3 q4 hfw
  generalize kw (nB blocks) l = S at *
  obtain ⟨g, L⟩ := S
  dsimp only at hWk hKI hL hgen
  obtain ⟨q1, q2, q3⟩ := cpt_calm hKI.out
  have hKI1 := Lib.hid q1
  have hn1' := Lib.hid q2
  have hE1 := Lib.hid q3
  have hgen1 := Lib.hid (show (opL (.rep (snap L)) g).2.h.gen ≤ 21 from Nat.le_trans (op_gen _ g) (by have := hgen.out; omega))
  have hok1 := Lib.hid (cpt_ok hKI.out)
  clear q1 q2 q3
  go_upto_region 6 with (go_at_call 22; refine hWk.mono ?_; rintro e w3 ⟨r, rfl, p, s, rfl, e3, k3⟩)
  have k3h := Lib.hid k3.bound
  have e23 := Lib.hid e3
  have e3h := Lib.hid (e2h.out.trans e3)
  clear hWk e3 k3
  have hAl := kvAll_any k3h.out hKI.out.oks (by have := hL.out; omega)
  go_upto_region 8 with fail
  go_upto_region 9 with (go_at_call 19; refine hAl.mono ?_; rintro e w4 ⟨wa, rfl, o4, e4⟩)
  obtain ⟨aw, cw, rfl, -⟩ := o4.shape
  have e34 := Lib.hid e4
  have e24 := Lib.hid (e23.out.trans e4)
  have o4h := Lib.hid o4.lt'
  have hs34 := Lib.hid (And.intro e23.out.size e34.out.size)
  clear hAl o4 e4
  obtain ⟨A, hA⟩ : ∃ A : Nat → Prop, A = fun k => (w2.heap.size ≤ k ∧ k < w3.heap.size) ∨ w4.heap.size ≤ k := ⟨_, rfl⟩
  have hAw := Lib.hid (show ∀ k, A k → w2.heap.size ≤ k from fun k hk => by rw [hA] at hk; obtain ⟨x1, x2⟩ := hs34.out; rcases hk with h | h <;> omega)
  have hAn := Lib.hid (show ∀ k, w3.heap.size ≤ k ∧ k < w4.heap.size → ¬ A k from fun k hk h => by rw [hA] at h; rcases h with h | h <;> omega)
  have hhA := Lib.hid (show ¬ A 1 from fun h => not_from (hwh.out.ext e2h.out) (hAw.out _ h))
  have hAe := Lib.hid (show ∀ W : World, w4.heap.size ≤ W.heap.size → ∀ k, grow A W k → A k from fun W hW k hk => by
    rw [hA] at hk ⊢
    rcases hk with h | h
    · exact h
    · exact .inr (Nat.le_trans hW h))
  have k4 := Lib.hid (show StM w4 A s p g L from (k3h.out.ext e34.out).mono fun k hk => by rw [hA]; exact .inl hk)
  have hEx := Lib.hid (show ∀ W, Chg A w4 W → Ext w W from fun W d => e2h.out.trans (e24.out.chg d hAw.out))
  have hwas := Lib.hid (show ∀ W, Chg A w4 W → Prs W (.slice aw L.length cw) L from fun W d => (o4h.out.chg d hAn.out).rs (by decide) prc_len)
  have hCp := Lib.hid (fun (W : World) (gg : Lg) (d : Chg A w4 W) (k : StM W A s p gg L) (sn : Sane gg) (st : gg.d.st = []) => kvCompact_any k sn (by rw [st]; exact Nat.zero_le _) (hwh.out.ext (hEx.out W d)) hhA.out (by have := hL.out; omega) hKI.out.oks)
  have hAll := Lib.hid (fun (W : World) (gg : Lg) (F : Nat → Prop) (t : Nat) (k : StM W F t p gg L) => kvAll_any k hKI.out.oks (by have := hL.out; omega))
  clear hA k3h o4h hAn hAw
  have hC1 := hCp.out w4 g (Chg.refl _ _) k4.out hKI.out.sane hKI.out.st
  go_upto_region 10 with (go_at_call 28; refine hC1.mono ?_; rintro e w5 ⟨rfl, d5, k5⟩)
  have d5h := Lib.hid d5
  have k5h := Lib.hid (k5.mono (hAe.out _ (Nat.le_refl _)))
  clear hC1 d5 k5
  generalize hR : opL (.rep (snap L)) g = R at *
  obtain ⟨E1, g1⟩ := R
  clear hR
  dsimp only at hKI1 hn1' hE1 hgen1 hok1 k5h
  have hA5 := hAll.out w5 g1 A s k5h.out
  go_upto_region 12 with (first
    | (go_at_call 19; refine hA5.mono ?_; rintro e w6 ⟨x1, rfl, o1, e6⟩; obtain ⟨ax, cx, rfl, -⟩ := o1.shape; have q6 := hwas.out w6 (d5h.out.ext e6))
    | (go_at_call 20; refine (refPrs_any _ _ _ _ w6 (o1.rs (by decide) prc_len) q6).mono ?_; rintro e w7 ⟨rfl, e7⟩; rw [eqB_self]))
  have e57 := Lib.hid (e6.trans e7)
  have d7h := Lib.hid ((d5h.out.ext e6).ext e7)
  have k7h := Lib.hid ((k5h.out.ext e6).ext e7)
  clear hA5 o1 q6 e6 e7
  rcases hE1.out with rfl | rfl
  · obtain ⟨v1, v2⟩ := hok1.out rfl
    have hsz1 := Lib.hid (show Fr.size (snap L) ≤ 32 * areaN g1.d.n from by rw [hn1'.out]; exact v2)
    have hz2 := cpt_again hKI1.out hsz1.out (by have := hgen1.out; omega)
    obtain ⟨q1, q2, -⟩ := cpt_calm hKI1.out
    obtain ⟨v3, -⟩ := cpt_ok hKI1.out hz2
    have hKI2 := Lib.hid q1
    have hn2 := Lib.hid q2
    have hgen2 := Lib.hid (show (opL (.rep (snap L)) g1).2.h.gen ≤ 22 from Nat.le_trans (op_gen _ g1) (by have := hgen1.out; omega))
    have hu2 := Lib.hid (v3.trans v1.symm)
    have hC2 := Lib.hid (fun W (d : Chg A w4 W) (k : StM W A s p g1 L) => hCp.out W g1 d k hKI1.out.sane hKI1.out.st)
    have hR1 := kvRoom_m k7h.out hKI1.out.sane
    clear v1 v2 v3 q1 q2 hE1 hok1
    generalize hR : opL (.rep (snap L)) g1 = R at *
    obtain ⟨E2, g2⟩ := R
    clear hR
    dsimp only at hz2 hKI2 hn2 hgen2 hu2 hC2
    subst hz2
    have hRm := Lib.hid (show ((32 * areaN g2.d.n - g2.h.used : Nat) : Int) = ((32 * areaN g1.d.n - g1.h.used : Nat) : Int) from by rw [hn2.out, hu2.out])
    have hR2 := Lib.hid (fun W F (k : StM W F s p g2 L) => kvRoom_m k hKI2.out.sane)
    rw [hRm.out] at hR2
    generalize ((32 * areaN g1.d.n - g1.h.used : Nat) : Int) = room at *
    go_upto_region 15 with fail
    go_upto_region 16 with (go_at_call 29; refine hR1.mono ?_; rintro e w8 ⟨rfl, e8⟩)
    have d8 := Lib.hid (d7h.out.ext e8)
    have k8 := Lib.hid (k7h.out.ext e8)
    have hC2' := hC2.out w8 d8.out k8.out
    clear hR1 e8 hC2
    go_upto_region 17 with (go_at_call 28; refine hC2'.mono ?_; rintro e w9 ⟨rfl, d9, k9⟩)
    have d9h := Lib.hid (d8.out.trans d9)
    have k9h := Lib.hid (k9.mono (hAe.out _ d8.out.size))
    have hR2' := hR2.out w9 A k9h.out
    clear hC2' d9 k9 hR2
    go_upto_region 19 with (go_at_call 29; refine hR2'.mono ?_; rintro e w10 ⟨rfl, e10⟩)
    have d10 := Lib.hid (d9h.out.ext e10)
    have k10 := Lib.hid (k9h.out.ext e10)
    have hSt := kvStop_m k10.out (sn : Int) (by omega) (by have := hsn.out; omega)
    clear hR2' e10
    go_upto_region 20 with (go_at_call 26; refine hSt.mono ?_; rintro e w11 ⟨rfl, d11, k11⟩)
    have d11h := Lib.hid (d10.out.trans d11)
    have k11h := Lib.hid (k11.mono (hAe.out _ d10.out.size))
    clear hSt d11 k11
    have hC3 := hCp.out w11 _ d11h.out k11h.out (hKI2.out.sane.disk rfl) (show (stop (sn : Int) g2.d).st = [] from hKI2.out.st)
    have hcs := Lib.hid (cpt_stop hKI2.out (by rw [hn2.out]; exact hsz1.out) (by have := hgen2.out; omega) sn cuts rfl)
    generalize opL (.rep (snap L)) ⟨stop (sn : Int) g2.d, g2.h, g2.u⟩ = R at *
    obtain ⟨E3, g3⟩ := R
    dsimp only at hC3 hcs
    go_upto_region 21 with (go_at_call 28; refine hC3.mono ?_; rintro e w12 ⟨rfl, d12, k12⟩)
    have d12h := Lib.hid (d11h.out.trans d12)
    have k12h := Lib.hid (k12.mono (hAe.out _ d11h.out.size))
    clear hC3 d12 k12
    have hCr := kvCrash_m k12h.out (.slice a5 cuts.length c5) cuts (fun W d => h5h.out.ext (hEx.out W (d12h.out.trans d)))
    go_upto_region 22 with (go_at_call 27; refine hCr.mono ?_; rintro e w13 ⟨rfl, d13, k13⟩)
    have d13h := Lib.hid (d12h.out.trans d13)
    have k13h := Lib.hid (k13.mono (hAe.out _ d12h.out.size))
    clear hCr d13 k13
    obtain ⟨hE3, f1, f2⟩ := hcs.out
    have hOp := kvOpen_m k13h.out (hwh.out.ext (hEx.out _ d13h.out)) f1 f2
    clear hcs f1 f2
    go_upto_region 23 with (go_at_call 16; refine hOp.mono ?_; rintro e w14 ⟨r, rfl, s', rfl, e14, k14⟩)
    have d14 := Lib.hid (d13h.out.ext e14)
    have hA14 := hAll.out w14 _ _ s' k14
    clear hOp k14 e14
    rcases hE3 with rfl | rfl
    all_goals
      go_wp2_with (first
        | (go_at_call 19; refine hA14.mono ?_; rintro e w15 ⟨x2, rfl, o2, e15⟩; obtain ⟨ay, cy, rfl, -⟩ := o2.shape; have q15 := hwas.out w15 (d14.out.ext e15))
        | (go_at_call 20; refine (refPrs_any _ _ _ _ w15 (o2.rs (by decide) prc_len) q15).mono ?_; rintro e w16 ⟨rfl, e16⟩; rw [eqB_self]))
      go_ret
      exact ⟨rfl, hEx.out _ ((d14.out.ext e15).ext e16)⟩
  · obtain ⟨f1, f2, -, -⟩ := hKI1.out.found
    have hOp := kvOpen_m k7h.out (hwh.out.ext (hEx.out _ d7h.out)) f1 f2
    clear hE1 hok1 f1 f2
    go_upto_region 14 with (go_at_call 16; refine hOp.mono ?_; rintro e w9 ⟨r, rfl, s', rfl, e9, k9⟩)
    have d9 := Lib.hid (d7h.out.ext e9)
    have hA9 := hAll.out w9 _ _ s' k9
    clear hOp k9 e9
    go_wp2_with (first
      | (go_at_call 19; refine hA9.mono ?_; rintro e w10 ⟨x2, rfl, o2, e10⟩; obtain ⟨ay, cy, rfl, -⟩ := o2.shape; have q10 := hwas.out w10 (d9.out.ext e10))
      | (go_at_call 20; refine (refPrs_any _ _ _ _ w10 (o2.rs (by decide) prc_len) q10).mono ?_; rintro e w11 ⟨rfl, e11⟩; rw [eqB_self]))
    go_ret
    exact ⟨rfl, hEx.out _ ((d9.out.ext e10).ext e11)⟩
end Go.Proofs.YtkdmljijgfejpaaDoor
