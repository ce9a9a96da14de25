/- WalKeeps: the walk. -/
import Derived.Test.YtmpjcnopakfdmaaDoorWlO
namespace Go.Proofs.YtmpjcnopakfdmaaDoor
set_option linter.unusedVariables false
set_option linter.unusedSimpArgs false
open Go.RowKit Dk Wl Fr

attribute [local irreducible] opL wk openE openH openU
theorem rem27 (b : UInt8) : Int.tmod (b.toNat : Int) 27 = ((b.toNat % 27 : Nat) : Int) ∧ IntKind.u8.wrap ((b.toNat % 27 : Nat) : Int) = ((b.toNat % 27 : Nat) : Int) ∧ IntKind.i64.wrap ((b.toNat % 27 : Nat) : Int) = ((b.toNat % 27 : Nat) : Int) ∧ IntKind.i64.wrap (4 + ((b.toNat % 27 : Nat) : Int)) = 4 + ((b.toNat % 27 : Nat) : Int) := by
  have := b.toNat_lt
  refine ⟨by rw [Int.tmod_eq_emod_of_nonneg (by omega)]; omega, by rw [IntKind.wrap_u8]; omega, by rw [IntKind.wrap_i64]; omega, by rw [IntKind.wrap_i64]; omega⟩
theorem rem31 (b : UInt8) : Int.tmod (b.toNat : Int) 31 = ((b.toNat % 31 : Nat) : Int) ∧ IntKind.u8.wrap ((b.toNat % 31 : Nat) : Int) = ((b.toNat % 31 : Nat) : Int) ∧ IntKind.i64.wrap ((b.toNat % 31 : Nat) : Int) = ((b.toNat % 31 : Nat) : Int) := by
  have := b.toNat_lt
  refine ⟨by rw [Int.tmod_eq_emod_of_nonneg (by omega)]; omega, by rw [IntKind.wrap_u8]; omega, by rw [IntKind.wrap_i64]; omega⟩
set_option maxRecDepth 20000 in
set_option maxHeartbeats 4000000 in
theorem walKeeps_any (blocks : UInt8) (v1 : Value) (ls : List (List UInt8)) (v2 : Value) (stops : List UInt8) (v3 : Value) (cuts : List UInt8) (w : World) (hw : Halves w) (h1 : LL w v1 ls) (h2 : Bytes w v2 stops) (h3 : Bytes w v3 cuts) :
    Calls Tryd.prog 9 #[.int .u8 (blocks.toNat : Int), v1, v2, v3] w (LawEnd w) := by
  have haw := awake10_any w hw
  have hwh := Lib.hid hw
  have h1h := Lib.hid h1
  have h2h := Lib.hid h2
  have h3h := Lib.hid h3
  obtain ⟨a1, c1, rfl, -, hget⟩ := h1.get
  obtain ⟨a2, c2, rfl, -⟩ := h2
  obtain ⟨a3, c3', rfl, -⟩ := h3
  have hgh := Lib.hid hget
  clear h1 hget hw
  obtain ⟨t1, t2, t3, t4⟩ := rem27 blocks
  have hm := Lib.hid (show blocks.toNat % 27 < 27 from Nat.mod_lt _ (by decide))
  generalize blocks.toNat % 27 = m at *
  go_enter Tryd.func9, Tryd.ntmps9
  go_upto_region 3 with (first
    | (go_at_call 23; refine haw.mono ?_; rintro e w1 ⟨rfl, e1⟩)
    | (go_at_call 13; refine (few09_any _ _ _ (h1h.out.ext e1)).mono ?_; rintro e w1' ⟨rfl, rfl⟩))
  cases hf : fewF ls
  · go_wp2
    go_ret
    exact ⟨rfl, e1⟩
  have hls := Lib.hid (fewF_ok hf).1
  clear hf haw
  by_cases hc100 : 100 < cuts.length
  · go_wp2
    go_ret
    exact ⟨rfl, e1⟩
  have e1h := Lib.hid e1
  clear e1
  have hwk := walked_any (n := 4 + m) (by omega) (by have := hm.out; omega) (.slice none 0 0) [] w1 ⟨none, 0, rfl, Nat.le_refl _, by simp [maxLen], fun j x h => by simp at h⟩ (fun x hx => by simp at hx) (hwh.out.ext e1h.out)
  rw [show ((4 + m : Nat) : Int) = 4 + (m : Int) by omega] at hwk
  obtain ⟨cc, hcc⟩ : ∃ c, c = cutAt cuts 0 := ⟨_, rfl⟩
  have hcch := Lib.hid hcc
  have hlw0 := Lib.hid (show Lw cc (wk (4 + m) []) [] from by unfold wk; exact new_log (by omega) (by have := hm.out; omega) cc)
  clear hcc
  generalize wk (4 + m) [] = g0 at *
  go_wp2_with (go_at_call 32; refine hwk.mono ?_; rintro e w2 ⟨r, rfl, p, q0, rfl, e2, l2⟩)
  have e2h := Lib.hid (e1h.out.trans e2)
  have l2h := Lib.hid (l2.mono fun k (hk : w1.heap.size ≤ k) => Nat.le_trans e1h.out.size hk)
  go_loopw [12, 13, 14] (fun gq vs i wr => ∃ (k q : Nat) (g : Lg) (rs : List (List UInt8)) (F : Nat → Prop), k ≤ ls.length ∧ i = .int .i64 (k : Int) ∧ gq = .pointer (some ⟨q, 0, none⟩) ∧ RowKit.Hid (rs.length ≤ k) ∧ RowKit.Hid (LogM wr F q p g) ∧ RowKit.Hid (∀ j, F j → w.heap.size ≤ j) ∧ RowKit.Hid (Lw cc g rs) ∧ RowKit.Hid (OwnLL wr w.heap.size (fun j => j < w.heap.size) vs rs) ∧ RowKit.Hid (∀ j, vs.ownBlock = some j → ¬ F j) ∧ RowKit.Hid (Ext w wr)) (fun _ _ i _ => ls.length - (intOf i).toNat)
  case atStart => exact ⟨0, q0, g0, [], from_ w, Nat.zero_le _, rfl, rfl, Lib.hid (Nat.le_refl _), l2h, Lib.hid fun j h => h, hlw0, Lib.hid (OwnLL.nil _ _ _), Lib.hid (fun j h => by simp [Value.ownBlock] at h), e2h⟩
  case round =>
    obtain ⟨k, q, g, rs, F, hk, rfl, rfl, hrl, hlg, hF, hlw, hso, hsb, ek⟩ := hrel
    obtain ⟨w0, rfl⟩ : ∃ W, W = wr := ⟨_, rfl⟩
    by_cases hlt : k < ls.length
    · obtain ⟨gl, ol, bb, cb, rfl, cel, hbl⟩ := hgh.out k hlt
      obtain ⟨avs, cvs, rfl, -, -, -, -⟩ := hso.out.get
      have hrl20 := Lib.hid (show rs.length ≤ 20 from by have := hrl.out; have := hls.out; omega)
      have hrln := Lib.hid (show rs.length + 1 ≤ k + 1 from by have := hrl.out; omega)
      have hrlm := Lib.hid (show rs.length ≤ k + 1 from by have := hrl.out; omega)
      have hbh := Lib.hid hbl
      have celh := Lib.hid cel
      clear hbl cel
      generalize ls[k] = b at *
      have hki : (k : Int) < (ls.length : Int) := by omega
      have hg4 := Lib.hid hlw.out.sane
      have hst := Lib.hid (show g.d.st.length ≤ 100000 from by rw [hlw.out.st]; exact Nat.zero_le _)
      have hF' := Lib.hid (show ∀ j, grow F w0 j → w.heap.size ≤ j from fun j h => h.elim (hF.out j) fun h => Nat.le_trans ek.out.size h)
      have hgr := Lib.hid (show ∀ W : World, w0.heap.size ≤ W.heap.size → ∀ j, grow (grow F w0) W j → grow F w0 j from fun W h j hj => hj.elim id fun h2 => .inr (Nat.le_trans h h2))
      have hnh := Lib.hid (show ¬ grow F w0 0 from fun h => not_from hwh.out (hF'.out _ h))
      have l0 := Lib.hid (hlg.out.mono (F' := grow F w0) fun _ h => .inl h)
      have hob := Lib.hid (show ∀ j, (Value.slice avs rs.length cvs).ownBlock = some j → ¬ grow F w0 j from fun j hj h => h.elim (hsb.out j hj) fun h => by have := (hso.out.own_lt j hj).2; omega)
      have hEx := Lib.hid (show ∀ W, Chg (grow F w0) w0 W → Ext w W from fun W c => ek.out.chg c hF'.out)
      have hq1 : ((rs.length : Int) == (rs.length : Int) + 1) = false := by rw [beq_eq_false_iff_ne]; omega
      have hq2 : IntKind.i64.wrap ((rs.length : Int) + 1) = (rs.length : Int) + 1 := by have := hrl20.out; rw [IntKind.wrap_i64]; omega
      have gk : IntKind.i64.wrap ((k : Int) + 1) = (k : Int) + 1 := by have := hls.out; rw [IntKind.wrap_i64]; omega
      have hsq : seqL (rs ++ [b]) (rs ++ [b]) = true := seqL_true.2 rfl
      have hsq0 : seqL rs rs = true := seqL_true.2 rfl
      clear hrl hlg hsb
      by_cases hs : k < stops.length
      · have hsi : (k : Int) < (stops.length : Int) := by omega
        obtain ⟨gs, os, rfl⟩ := h2h.out.ad (by omega)
        have c2 := h2h.out.gt k hs
        have c20 := (ek.out).cell c2
        generalize stops.getD k 0 = sb at *
        obtain ⟨u1, u2, u3⟩ := rem31 sb
        have hsb31 := Lib.hid (show sb.toNat % 31 < 31 from Nat.mod_lt _ (by decide))
        generalize sb.toNat % 31 = sn at *
        have hkp := Lib.hid (keep_stop hlw.out b cuts hcch.out.symm sn)
        have hst1 := lstop_m l0.out (sn : Int) (by omega) (by have := hsb31.out; omega)
        have hap := Lib.hid (fun W (l : LogM W (grow F w0) q p ⟨stop (sn : Int) g.d, g.h, g.u⟩) (e : Ext w W) => lappend_any l (hg4.out.disk rfl) (show (stop (sn : Int) g.d).st.length ≤ 100000 from hst.out) (hwh.out.ext e) hnh.out (hbh.out.ext e))
        generalize opL (.app b) ⟨stop (sn : Int) g.d, g.h, g.u⟩ = r at *
        obtain ⟨E, g2⟩ := r
        dsimp only at hkp hap
        clear c2
        go_upto_region 14 with (go_at_call 34; refine hst1.mono ?_; rintro e w3 ⟨rfl, c3, l3⟩)
        have l3h := Lib.hid (l3.mono (hgr.out _ (Nat.le_refl _)))
        have c03 := Lib.hid c3
        have cel3 : w3.cell? ⟨gl, ol + k, none⟩ = some (.slice bb b.length cb) := (hEx.out _ c3).cell celh.out
        have hap3 := hap.out _ l3h.out (hEx.out _ c3)
        clear hst1 c3 l3 c20 hap u1 u2 u3
        go_upto_region 15 with (go_at_call 37; refine hap3.mono ?_; rintro e w4 ⟨rfl, c4, l4⟩)
        have c04 := Lib.hid (c03.out.trans c4)
        have l4h := Lib.hid (l4.mono (hgr.out _ c03.out.size))
        have hcr := lcrash_m l4h.out (.slice a3 cuts.length c3') cuts (fun W c => h3h.out.ext (hEx.out _ (c04.out.trans c)))
        clear hap3 c4 l4 cel3
        go_upto_region 17 with (go_at_call 36; refine hcr.mono ?_; rintro e w5 ⟨rfl, c5, l5⟩)
        have c05 := Lib.hid (c04.out.trans c5)
        have l5h := Lib.hid (l5.mono (hgr.out _ c04.out.size))
        have hop := lopen_l l5h.out (hwh.out.ext (hEx.out _ c05.out))
        dsimp only at hop
        generalize crash cuts g2.d = d2 at *
        clear hcr c5 l5
        obtain ⟨rs', hlw2, hE0, hscn, hout⟩ := hkp.out
        rw [hE0] at hop
        have hsn := Lib.hid hlw2.sane
        have hlw2h := Lib.hid hlw2
        clear hkp hE0 hlw2
        go_upto_region 20 with (go_at_call 27; refine hop.mono ?_; rintro e w6 ⟨r, rfl, e6, ⟨h0, -⟩ | ⟨-, q', rfl, hq', l6⟩⟩; exact absurd rfl h0)
        have c06 := Lib.hid (c05.out.ext e6)
        have l6h := Lib.hid (l6.mono (hgr.out _ c05.out.size))
        have hRc := lrecords_m l6h.out hsn.out (hwh.out.ext (hEx.out _ c06.out))
        rw [show scan (⟨d2, openH d2, openU d2⟩ : Lg).u = rs' from hscn] at hRc
        clear hop l6 e6 hq' hscn
        go_upto_region 21 with (go_at_call 33; refine hRc.mono ?_; rintro e w7 ⟨v7, rfl, o7, e7⟩)
        have c07 := Lib.hid (c06.out.ext e7)
        have l7 := Lib.hid ((l6h.out.ext e7).bound)
        have hso7 := Lib.hid (hso.out.chgO c07.out hob.out fun j hj _ h => by have := hF'.out j h; omega)
        have cel7 : w7.cell? ⟨gl, ol + k, none⟩ = some (.slice bb b.length cb) := (hEx.out _ c07.out).cell celh.out
        have hb7 := Lib.hid (hbh.out.ext (hEx.out _ c07.out))
        have e7w := Lib.hid (hEx.out _ c07.out)
        have ho76 := Lib.hid (show w0.heap.size ≤ w6.heap.size from c06.out.size)
        have o7h := Lib.hid o7
        obtain ⟨a7, c7, rfl, -, -, -, -⟩ := o7.get
        have hob7 := Lib.hid (show ∀ j, (Value.slice avs rs.length cvs).ownBlock = some j → ¬ (grow F w0 j ∧ j < w7.heap.size) from fun j hj h => hob.out j hj h.1)
        have hvb := Lib.hid (show ∀ j, vblk (.slice bb b.length cb) = some j → b ≠ [] → j < w.heap.size ∧ (Value.slice avs rs.length cvs).ownBlock ≠ some j from fun j hj hl => by
          have h1 := hbh.out.blk_lt hl j hj
          exact ⟨h1, fun h => by have := (hso7.out.own_lt j h).1; omega⟩)
        clear hRc o7 e7 l6h
        rcases hout with ⟨hE, rfl⟩ | ⟨hE, rfl⟩ | ⟨hE, rfl⟩
        · subst hE
          have hA := Lib.hid (show ∀ W v9 w9, Ext w7 W → OwnLL w9 w.heap.size (fun j => j < w.heap.size) v9 (rs ++ [b]) → W.grownBy w9 (Value.slice avs rs.length cvs).ownBlock → (v9.ownBlock = (Value.slice avs rs.length cvs).ownBlock ∨ v9.ownBlock = some W.heap.size) → LogM w9 (fun j => grow F w0 j ∧ j < w7.heap.size) q' p ⟨d2, openH d2, openU d2⟩ ∧ Ext w w9 ∧ (∀ j, v9.ownBlock = some j → ¬ (grow F w0 j ∧ j < w7.heap.size)) ∧ LL w9 (.slice a7 (rs.length + 1) c7) (rs ++ [b]) from fun W v9 w9 e o9 g9 h9 => by
            have cg : Chg (fun j => (Value.slice avs rs.length cvs).ownBlock = some j) W w9 := (Chg.refl _ W).grown g9 fun j hj _ => hj
            refine ⟨(l7.out.ext e).chg cg (fun j _ hj hv => hob7.out j hv hj), (e7w.out.trans e).chg cg (fun j hj => (hso7.out.own_lt j hj).1), fun j hj h => ?_, ?_⟩
            · rcases h9 with h9 | h9
              · rw [h9] at hj; exact hob7.out j hj h
              · rw [h9] at hj
                have := Option.some.inj hj
                have := e.size
                omega
            · rw [show rs.length + 1 = (rs ++ [b]).length from by simp]
              exact ((o7h.out.ext e).chgO cg (fun j hj hv => by have h1 := (hso.out.own_lt j hv).2; have h2 := (o7h.out.own_lt j hj).1; have := ho76.out; omega) (fun j hj _ hv => by have h1 := (hso.out.own_lt j hv).2; have := ho76.out; omega)).ll)
          go_wp2_with (first
            | (refine wpList_appendLLx rfl (.tmp 90) (.tmp 95) rfl w.heap.size (fun j => j < w.heap.size) (.slice avs rs.length cvs) rs rfl (hso7.out.ext ((Ext.refl w7).alloc _)) w7.heap.size 1 rfl (.slice bb b.length cb) b (cell_one_new w7 (.slice bb b.length cb) 22 0 _ rfl) rfl (hb7.out.ext ((Ext.refl w7).alloc _)) hvb.out (by have := hrl20.out; omega) (Nat.le_trans e7w.out.size ((Ext.refl w7).alloc _).size) ?_; intro v9 w9 o9 g9 h9; obtain ⟨l9, e9, b9, n9⟩ := hA.out _ v9 w9 ((Ext.refl w7).alloc _) o9 g9 h9)
            | (go_at_call 21; refine (lists_any _ _ (rs ++ [b]) (rs ++ [b]) _ n9 o9.ll).mono ?_; rintro e w10 ⟨rfl, e10⟩; go_wp2_with fail))
          go_roundw
          case rel => exact ⟨k + 1, q', ⟨d2, openH d2, openU d2⟩, rs ++ [b], fun j => grow F w0 j ∧ j < w7.heap.size, by omega, by go_num, rfl, Lib.hid (by rw [List.length_append]; exact hrln.out), Lib.hid (l9.ext e10), Lib.hid fun j h => hF'.out j h.1, hlw2h, Lib.hid (o9.ext e10), Lib.hid b9, Lib.hid (e9.trans e10)⟩
          case measure => simp [intOf]; omega
        · have d0 : (E == 0) = false := by rw [beq_eq_false_iff_ne]; exact hE
          have hd21 : (E == 21) = true ∨ (E == 21) = false := by cases (E == 21) <;> simp
          rcases hd21 with d21 | d21
          all_goals
            go_wp2_with (go_at_call 21; refine (lists_any _ _ rs' rs' _ o7h.out.ll hso7.out.ll).mono ?_; rintro e w10 ⟨rfl, e10⟩; go_wp2_with fail)
            go_roundw
            case rel => exact ⟨k + 1, q', ⟨d2, openH d2, openU d2⟩, rs', fun j => grow F w0 j ∧ j < w7.heap.size, by omega, by go_num, rfl, hrlm, Lib.hid (l7.out.ext e10), Lib.hid fun j h => hF'.out j h.1, hlw2h, Lib.hid (hso7.out.ext e10), hob7, Lib.hid (e7w.out.trans e10)⟩
            case measure => simp [intOf]; omega
        · subst hE
          have hA := Lib.hid (show ∀ W v9 w9, Ext w7 W → OwnLL w9 w.heap.size (fun j => j < w.heap.size) v9 (rs ++ [b]) → W.grownBy w9 (Value.slice avs rs.length cvs).ownBlock → (v9.ownBlock = (Value.slice avs rs.length cvs).ownBlock ∨ v9.ownBlock = some W.heap.size) → LogM w9 (fun j => grow F w0 j ∧ j < w7.heap.size) q' p ⟨d2, openH d2, openU d2⟩ ∧ Ext w w9 ∧ (∀ j, v9.ownBlock = some j → ¬ (grow F w0 j ∧ j < w7.heap.size)) ∧ LL w9 (.slice a7 (rs.length + 1) c7) (rs ++ [b]) from fun W v9 w9 e o9 g9 h9 => by
            have cg : Chg (fun j => (Value.slice avs rs.length cvs).ownBlock = some j) W w9 := (Chg.refl _ W).grown g9 fun j hj _ => hj
            refine ⟨(l7.out.ext e).chg cg (fun j _ hj hv => hob7.out j hv hj), (e7w.out.trans e).chg cg (fun j hj => (hso7.out.own_lt j hj).1), fun j hj h => ?_, ?_⟩
            · rcases h9 with h9 | h9
              · rw [h9] at hj; exact hob7.out j hj h
              · rw [h9] at hj
                have := Option.some.inj hj
                have := e.size
                omega
            · rw [show rs.length + 1 = (rs ++ [b]).length from by simp]
              exact ((o7h.out.ext e).chgO cg (fun j hj hv => by have h1 := (hso.out.own_lt j hv).2; have h2 := (o7h.out.own_lt j hj).1; have := ho76.out; omega) (fun j hj _ hv => by have h1 := (hso.out.own_lt j hv).2; have := ho76.out; omega)).ll)
          go_wp2_with (first
            | (refine wpList_appendLLx rfl (.tmp 107) (.tmp 112) rfl w.heap.size (fun j => j < w.heap.size) (.slice avs rs.length cvs) rs rfl (hso7.out.ext ((Ext.refl w7).alloc _)) w7.heap.size 1 rfl (.slice bb b.length cb) b (cell_one_new w7 (.slice bb b.length cb) 22 0 _ rfl) rfl (hb7.out.ext ((Ext.refl w7).alloc _)) hvb.out (by have := hrl20.out; omega) (Nat.le_trans e7w.out.size ((Ext.refl w7).alloc _).size) ?_; intro v9 w9 o9 g9 h9; obtain ⟨l9, e9, b9, n9⟩ := hA.out _ v9 w9 ((Ext.refl w7).alloc _) o9 g9 h9)
            | (go_at_call 21; refine (lists_any _ _ (rs ++ [b]) (rs ++ [b]) _ n9 o9.ll).mono ?_; rintro e w10 ⟨rfl, e10⟩; go_wp2_with fail))
          go_roundw
          case rel => exact ⟨k + 1, q', ⟨d2, openH d2, openU d2⟩, rs ++ [b], fun j => grow F w0 j ∧ j < w7.heap.size, by omega, by go_num, rfl, Lib.hid (by rw [List.length_append]; exact hrln.out), Lib.hid (l9.ext e10), Lib.hid fun j h => hF'.out j h.1, hlw2h, Lib.hid (o9.ext e10), Lib.hid b9, Lib.hid (e9.trans e10)⟩
          case measure => simp [intOf]; omega
      · have hsi : ¬ (k : Int) < (stops.length : Int) := by omega
        have hkp := Lib.hid (keep_calm hlw.out b)
        have hap := lappend_any l0.out hg4.out hst.out (hwh.out.ext ek.out) hnh.out (hbh.out.ext ek.out)
        have cel3 : w0.cell? ⟨gl, ol + k, none⟩ = some (.slice bb b.length cb) := ek.out.cell celh.out
        generalize opL (.app b) g = r at *
        obtain ⟨E, g2⟩ := r
        dsimp only at hkp hap
        go_upto_region 17 with (go_at_call 37; refine hap.mono ?_; rintro e w5 ⟨rfl, c5, l5⟩)
        have c05 := Lib.hid c5
        have l5h := Lib.hid (l5.mono (hgr.out _ (Nat.le_refl _)))
        have hop := lopen_l l5h.out (hwh.out.ext (hEx.out _ c05.out))
        generalize g2.d = d2 at *
        clear hap c5 l5 cel3
        obtain ⟨rs', hlw2, hE0, hscn, hout⟩ := hkp.out
        rw [hE0] at hop
        have hsn := Lib.hid hlw2.sane
        have hlw2h := Lib.hid hlw2
        clear hkp hE0 hlw2
        go_upto_region 20 with (go_at_call 27; refine hop.mono ?_; rintro e w6 ⟨r, rfl, e6, ⟨h0, -⟩ | ⟨-, q', rfl, hq', l6⟩⟩; exact absurd rfl h0)
        have c06 := Lib.hid (c05.out.ext e6)
        have l6h := Lib.hid (l6.mono (hgr.out _ c05.out.size))
        have hRc := lrecords_m l6h.out hsn.out (hwh.out.ext (hEx.out _ c06.out))
        rw [show scan (⟨d2, openH d2, openU d2⟩ : Lg).u = rs' from hscn] at hRc
        clear hop l6 e6 hq' hscn
        go_upto_region 21 with (go_at_call 33; refine hRc.mono ?_; rintro e w7 ⟨v7, rfl, o7, e7⟩)
        have c07 := Lib.hid (c06.out.ext e7)
        have l7 := Lib.hid ((l6h.out.ext e7).bound)
        have hso7 := Lib.hid (hso.out.chgO c07.out hob.out fun j hj _ h => by have := hF'.out j h; omega)
        have cel7 : w7.cell? ⟨gl, ol + k, none⟩ = some (.slice bb b.length cb) := (hEx.out _ c07.out).cell celh.out
        have hb7 := Lib.hid (hbh.out.ext (hEx.out _ c07.out))
        have e7w := Lib.hid (hEx.out _ c07.out)
        have ho76 := Lib.hid (show w0.heap.size ≤ w6.heap.size from c06.out.size)
        have o7h := Lib.hid o7
        obtain ⟨a7, c7, rfl, -, -, -, -⟩ := o7.get
        have hob7 := Lib.hid (show ∀ j, (Value.slice avs rs.length cvs).ownBlock = some j → ¬ (grow F w0 j ∧ j < w7.heap.size) from fun j hj h => hob.out j hj h.1)
        have hvb := Lib.hid (show ∀ j, vblk (.slice bb b.length cb) = some j → b ≠ [] → j < w.heap.size ∧ (Value.slice avs rs.length cvs).ownBlock ≠ some j from fun j hj hl => by
          have h1 := hbh.out.blk_lt hl j hj
          exact ⟨h1, fun h => by have := (hso7.out.own_lt j h).1; omega⟩)
        clear hRc o7 e7 l6h
        rcases hout with ⟨hE, rfl⟩ | ⟨hE, rfl⟩ | ⟨hE, rfl⟩
        · subst hE
          have hA := Lib.hid (show ∀ W v9 w9, Ext w7 W → OwnLL w9 w.heap.size (fun j => j < w.heap.size) v9 (rs ++ [b]) → W.grownBy w9 (Value.slice avs rs.length cvs).ownBlock → (v9.ownBlock = (Value.slice avs rs.length cvs).ownBlock ∨ v9.ownBlock = some W.heap.size) → LogM w9 (fun j => grow F w0 j ∧ j < w7.heap.size) q' p ⟨d2, openH d2, openU d2⟩ ∧ Ext w w9 ∧ (∀ j, v9.ownBlock = some j → ¬ (grow F w0 j ∧ j < w7.heap.size)) ∧ LL w9 (.slice a7 (rs.length + 1) c7) (rs ++ [b]) from fun W v9 w9 e o9 g9 h9 => by
            have cg : Chg (fun j => (Value.slice avs rs.length cvs).ownBlock = some j) W w9 := (Chg.refl _ W).grown g9 fun j hj _ => hj
            refine ⟨(l7.out.ext e).chg cg (fun j _ hj hv => hob7.out j hv hj), (e7w.out.trans e).chg cg (fun j hj => (hso7.out.own_lt j hj).1), fun j hj h => ?_, ?_⟩
            · rcases h9 with h9 | h9
              · rw [h9] at hj; exact hob7.out j hj h
              · rw [h9] at hj
                have := Option.some.inj hj
                have := e.size
                omega
            · rw [show rs.length + 1 = (rs ++ [b]).length from by simp]
              exact ((o7h.out.ext e).chgO cg (fun j hj hv => by have h1 := (hso.out.own_lt j hv).2; have h2 := (o7h.out.own_lt j hj).1; have := ho76.out; omega) (fun j hj _ hv => by have h1 := (hso.out.own_lt j hv).2; have := ho76.out; omega)).ll)
          go_wp2_with (first
            | (refine wpList_appendLLx rfl (.tmp 90) (.tmp 95) rfl w.heap.size (fun j => j < w.heap.size) (.slice avs rs.length cvs) rs rfl (hso7.out.ext ((Ext.refl w7).alloc _)) w7.heap.size 1 rfl (.slice bb b.length cb) b (cell_one_new w7 (.slice bb b.length cb) 22 0 _ rfl) rfl (hb7.out.ext ((Ext.refl w7).alloc _)) hvb.out (by have := hrl20.out; omega) (Nat.le_trans e7w.out.size ((Ext.refl w7).alloc _).size) ?_; intro v9 w9 o9 g9 h9; obtain ⟨l9, e9, b9, n9⟩ := hA.out _ v9 w9 ((Ext.refl w7).alloc _) o9 g9 h9)
            | (go_at_call 21; refine (lists_any _ _ (rs ++ [b]) (rs ++ [b]) _ n9 o9.ll).mono ?_; rintro e w10 ⟨rfl, e10⟩; go_wp2_with fail))
          go_roundw
          case rel => exact ⟨k + 1, q', ⟨d2, openH d2, openU d2⟩, rs ++ [b], fun j => grow F w0 j ∧ j < w7.heap.size, by omega, by go_num, rfl, Lib.hid (by rw [List.length_append]; exact hrln.out), Lib.hid (l9.ext e10), Lib.hid fun j h => hF'.out j h.1, hlw2h, Lib.hid (o9.ext e10), Lib.hid b9, Lib.hid (e9.trans e10)⟩
          case measure => simp [intOf]; omega
        · have d0 : (E == 0) = false := by rw [beq_eq_false_iff_ne]; exact hE
          have hd21 : (E == 21) = true ∨ (E == 21) = false := by cases (E == 21) <;> simp
          rcases hd21 with d21 | d21
          all_goals
            go_wp2_with (go_at_call 21; refine (lists_any _ _ rs' rs' _ o7h.out.ll hso7.out.ll).mono ?_; rintro e w10 ⟨rfl, e10⟩; go_wp2_with fail)
            go_roundw
            case rel => exact ⟨k + 1, q', ⟨d2, openH d2, openU d2⟩, rs', fun j => grow F w0 j ∧ j < w7.heap.size, by omega, by go_num, rfl, hrlm, Lib.hid (l7.out.ext e10), Lib.hid fun j h => hF'.out j h.1, hlw2h, Lib.hid (hso7.out.ext e10), hob7, Lib.hid (e7w.out.trans e10)⟩
            case measure => simp [intOf]; omega
        · subst hE
          have hA := Lib.hid (show ∀ W v9 w9, Ext w7 W → OwnLL w9 w.heap.size (fun j => j < w.heap.size) v9 (rs ++ [b]) → W.grownBy w9 (Value.slice avs rs.length cvs).ownBlock → (v9.ownBlock = (Value.slice avs rs.length cvs).ownBlock ∨ v9.ownBlock = some W.heap.size) → LogM w9 (fun j => grow F w0 j ∧ j < w7.heap.size) q' p ⟨d2, openH d2, openU d2⟩ ∧ Ext w w9 ∧ (∀ j, v9.ownBlock = some j → ¬ (grow F w0 j ∧ j < w7.heap.size)) ∧ LL w9 (.slice a7 (rs.length + 1) c7) (rs ++ [b]) from fun W v9 w9 e o9 g9 h9 => by
            have cg : Chg (fun j => (Value.slice avs rs.length cvs).ownBlock = some j) W w9 := (Chg.refl _ W).grown g9 fun j hj _ => hj
            refine ⟨(l7.out.ext e).chg cg (fun j _ hj hv => hob7.out j hv hj), (e7w.out.trans e).chg cg (fun j hj => (hso7.out.own_lt j hj).1), fun j hj h => ?_, ?_⟩
            · rcases h9 with h9 | h9
              · rw [h9] at hj; exact hob7.out j hj h
              · rw [h9] at hj
                have := Option.some.inj hj
                have := e.size
                omega
            · rw [show rs.length + 1 = (rs ++ [b]).length from by simp]
              exact ((o7h.out.ext e).chgO cg (fun j hj hv => by have h1 := (hso.out.own_lt j hv).2; have h2 := (o7h.out.own_lt j hj).1; have := ho76.out; omega) (fun j hj _ hv => by have h1 := (hso.out.own_lt j hv).2; have := ho76.out; omega)).ll)
          go_wp2_with (first
            | (refine wpList_appendLLx rfl (.tmp 107) (.tmp 112) rfl w.heap.size (fun j => j < w.heap.size) (.slice avs rs.length cvs) rs rfl (hso7.out.ext ((Ext.refl w7).alloc _)) w7.heap.size 1 rfl (.slice bb b.length cb) b (cell_one_new w7 (.slice bb b.length cb) 22 0 _ rfl) rfl (hb7.out.ext ((Ext.refl w7).alloc _)) hvb.out (by have := hrl20.out; omega) (Nat.le_trans e7w.out.size ((Ext.refl w7).alloc _).size) ?_; intro v9 w9 o9 g9 h9; obtain ⟨l9, e9, b9, n9⟩ := hA.out _ v9 w9 ((Ext.refl w7).alloc _) o9 g9 h9)
            | (go_at_call 21; refine (lists_any _ _ (rs ++ [b]) (rs ++ [b]) _ n9 o9.ll).mono ?_; rintro e w10 ⟨rfl, e10⟩; go_wp2_with fail))
          go_roundw
          case rel => exact ⟨k + 1, q', ⟨d2, openH d2, openU d2⟩, rs ++ [b], fun j => grow F w0 j ∧ j < w7.heap.size, by omega, by go_num, rfl, Lib.hid (by rw [List.length_append]; exact hrln.out), Lib.hid (l9.ext e10), Lib.hid fun j h => hF'.out j h.1, hlw2h, Lib.hid (o9.ext e10), Lib.hid b9, Lib.hid (e9.trans e10)⟩
          case measure => simp [intOf]; omega
    · obtain rfl : k = ls.length := by omega
      go_wp2
      go_ret
      exact ⟨rfl, ek.out⟩
end Go.Proofs.YtmpjcnopakfdmaaDoor
