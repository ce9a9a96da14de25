/- Package tree: Put. -/
import Derived.Test.YtmdepmohfnficaaDoorTrL
import Derived.StillTailTactics
namespace Go.Proofs.YtmdepmohfnficaaDoor
set_option linter.unusedVariables false
set_option linter.unusedSimpArgs false
open Go.RowKit Rk Tr

theorem seq_comm (p q : List UInt8) : seq p q = seq q p := by
  cases h : seq q p
  · exact seq_false.2 fun e => seq_false.1 h e.symm
  · exact seq_true.2 (seq_true.1 h).symm
/-- a record stored in the middle -/
theorem OwnR.set {w : World} {F : Nat → Prop} {g cap : Nat} {l : List Rec} (h : OwnR w F (.slice (some ⟨g, 0, none⟩) l.length cap) l) {i : Nat} (hi : i < l.length) {r : Rec} (hf : Fits r) :
    F g ∧ w.there g (i * 10) 10 ∧ OwnR (w.setCells g (i * 10) (prow r)) F (.slice (some ⟨g, 0, none⟩) l.length cap) (l.set i r) := by
  have hrec := h.recs
  obtain ⟨⟨⟨h1, h'⟩, h2⟩, hfit⟩ := h
  rcases h' with ⟨hv, hn⟩ | ⟨g', cap', cur, hv, hb, hh, hn, hm, hs, ht⟩
  · cases hv
  · cases hv
    have hrow : ∀ q x, l[q]? = some x → w.rangeAt g (q * 10) (prow x) := fun q x hq j u hu => by
      have hj := (List.getElem?_eq_some_iff.1 hu).1
      rw [prow_len] at hj
      have hjl := (List.getElem?_eq_some_iff.1 hq).1
      have := flat_get prow_len l q j x u hq hu
      rw [← ht, List.getElem?_take, if_pos (by omega)] at this
      rw [cell_of_row w g _ cur _ _ hh, ← Array.getElem?_toList]
      exact this
    have hfc : i * 10 + (prow r).length ≤ cur.size := by rw [prow_len, hs]; omega
    obtain ⟨c, k1, k2⟩ := setCells_row2 g _ _ (prow r) (i * 10) w cur hh hfc
    refine ⟨h2 g rfl, there_row hh (by rw [hs]; omega), ⟨⟨by rw [flat_len prow_len, List.length_set], .inr ⟨g, cap, c, by rw [List.length_set], Nat.zero_le _, k1, by rw [List.length_set]; exact hn, hm, by rw [k2, hs], ?_⟩⟩, fun k hk => h2 k hk⟩, fun x hx => ?_⟩
    · refine rows_flat k1 (by rw [k2, hs, List.length_set]; omega) fun q x hq => ?_
      rw [List.getElem?_set] at hq
      split at hq
      · rename_i e
        subst e
        obtain rfl : r = x := by simpa [hi] using hq
        exact World.rangeAt_setCells_same w g _ _ (there_row hh hfc)
      · rename_i e
        exact World.rangeAt_setCells_apart (hrow q x hq) _ _ _ (by rw [prow_len, prow_len]; omega)
    · rcases List.mem_or_eq_of_mem_set hx with hx | rfl
      · exact hfit x hx
      · exact hf
attribute [local irreducible] rcells
set_option maxRecDepth 20000 in
set_option maxHeartbeats 2000000 in
theorem put_any {F : Nat → Prop} {p room : Nat} {l : List Rec} (r : Rec) {w : World} (h : TrM 96 w F p room l) (hf : Fits r) (hw : Pres w) :
    Calls Tryd.prog 63 #[.pointer (some ⟨p, 0, none⟩), .agg (rcells r)] w fun e w' => e = .returned (.int .i64 (putE l r)) ∧ TrM 96 w' (fun k => F k ∨ w.heap.size ≤ k) p room (putL l r) ∧ Chg F w w' := by
  have e1 := (Ext.refl w).alloc (.cells (rcells r) 36)
  have hb := heap_alloc_new w (.cells (rcells r) 36)
  have k1 := cell_at hb 1 (rc_cells r).2.1
  have hth := Lib.hid h.lt
  have hat := Lib.hid (fun m W (e : Ext w W) => at_any m (h.ext e))
  have hRr := Lib.hid (fun W (e : Ext w W) => right_rc r hf W (hw.ext e))
  have hfh := Lib.hid hf
  have hbh := Lib.hid hb
  have e1h := Lib.hid e1
  have k1h := Lib.hid (fun W (e : Ext (w.alloc (.cells (rcells r) 36)) W) => e.cell k1)
  have hB := Lib.hid (fun W (e : Ext (w.alloc (.cells (rcells r) 36)) W) => e.heap hb)
  clear h hf hw hb e1
  cases hr : rightI r
  · have hn := Lib.hid (show putE l r = 1 from by unfold putE; rw [hr]; rfl)
    have hL := Lib.hid (show putL l r = l from by unfold putL; rw [hn.out]; rfl)
    go_enter Tryd.func63, Tryd.ntmps63
    go_wp2_with (first
      | (refine wpList_load_row rfl 36 _ rfl w.heap.size rfl 36 (rcells r) (0, 0) _ hbh.out Tryd.underlying36 rfl (rc_sz r) ?_)
      | (go_at_call 84; refine (hRr.out _ e1h.out).mono ?_; rw [hr]; rintro e w2 ⟨rfl, e2⟩))
    go_ret
    exact ⟨by rw [hn.out]; rfl, by rw [hL.out]; exact (hth.out.ext (e1h.out.trans e2)).mono fun k hk => .inl hk.1, Chg.of_ext (e1h.out.trans e2)⟩
  go_enter Tryd.func63, Tryd.ntmps63
  go_upto_region 3 with (first
    | (refine wpList_load_row rfl 36 _ rfl w.heap.size rfl 36 (rcells r) (0, 0) _ hbh.out Tryd.underlying36 rfl (rc_sz r) ?_)
    | (go_at_call 84; refine (hRr.out _ e1h.out).mono ?_; rw [hr]; rintro e w2 ⟨rfl, e2⟩))
  have d1 := k1h.out _ e2
  rcases atI_cases l r.name with ⟨h1, h2⟩ | ⟨i, x, h1, h2, h3, -⟩
  · have hn := Lib.hid (show putE l r = 6 from by unfold putE; rw [hr, h1]; rfl)
    have hL := Lib.hid (show putL l r = l from by unfold putL; rw [hn.out]; rfl)
    go_wp2_with (go_at_call 61; refine (hat.out r.name _ (e1h.out.trans e2)).mono ?_; rw [h2]; rintro e w3 ⟨rfl, e3⟩)
    go_ret
    exact ⟨by rw [hn.out]; rfl, by rw [hL.out]; exact (hth.out.ext ((e1h.out.trans e2).trans e3)).mono fun k hk => .inl hk.1, Chg.of_ext ((e1h.out.trans e2).trans e3)⟩
  have hil := (List.getElem?_eq_some_iff.1 h3).1
  have hii : (i : Int) < (l.length : Int) := by omega
  have hi0 : ¬ (i : Int) < 0 := by omega
  have hi1 : (0 : Int) ≤ (i : Int) := by omega
  have hE := Lib.hid (show putE l r = if seq x.par r.par = false then 8 else 0 from by unfold putE; rw [hr, h1]; simp only [Bool.true_eq_false, if_false]; rw [getD_at h3])
  have hLL := Lib.hid (fun h : putE l r = 0 => (show putL l r = l.set i r from by unfold putL; rw [h, h1]; rfl))
  go_upto_region 6 with (go_at_call 61; refine (hat.out r.name _ (e1h.out.trans e2)).mono ?_; rw [h2]; rintro e w3 ⟨rfl, e3⟩)
  have eW := (e1h.out.trans e2).trans e3
  have eB := e2.trans e3
  obtain ⟨v0, hv0, hFp, hov0⟩ := hth.out.ext eW
  have hov := hov0.not hv0 (by decide)
  obtain ⟨a, cap, rfl⟩ := hov.shape
  have hlen : (l.length : Int) ≤ 9223372036854775807 := by
    obtain ⟨_, _, _, h, _⟩ := Rw.shape hov.recs
    exact h
  obtain ⟨_, _, hq, -, hget⟩ := Rw.shape hov.recs
  cases hq
  obtain ⟨g, o, cs, rfl, hrr, rfl, -⟩ := hget i x h3
  have k2 : w3.cell? ⟨g, o + i * 10 + 2, none⟩ = some (.string (str x.par)) := hrr 2 _ (prow_cells x).2.2
  have kr := cell_at (hB.out _ eB) 2 (rc_cells r).2.2
  have cp : w3.cell? ⟨p, 1, none⟩ = some (.slice (some ⟨g, o, none⟩) l.length cap) := cell_at hv0 1 rfl
  clear hget hrr h1 h2 h3 d1 hRr hat e2 e3
  obtain rfl : o = 0 := by
    obtain ⟨⟨⟨-, h'⟩, -⟩, -⟩ := hov
    rcases h' with ⟨hv, -⟩ | ⟨_, _, _, hv, -⟩
    · cases hv
    · cases hv; rfl
  rw [Nat.zero_add] at k2
  go_region
  have eD := eW.drew
  have hBD := hB.out w3.drew eB.drew
  have hovD := hov.ext (Ext.refl w3).drew
  have hv0D := (Ext.refl w3).drew.heap hv0
  clear hv0 hov hov0 eW eB k2 kr cp
  generalize w3.drew = WD at *
  cases hsp : seq x.par r.par
  · have hn : RowKit.Hid (putE l r = 8) := Lib.hid (by rw [hE.out, hsp]; rfl)
    have hL := Lib.hid (show putL l r = l from by unfold putL; rw [hn.out]; rfl)
    go_wp2
    go_ret
    exact ⟨by rw [hn.out]; rfl, by rw [hL.out]; exact (hth.out.ext eD).mono fun k hk => .inl hk.1, Chg.of_ext eD⟩
  · have hn : RowKit.Hid (putE l r = 0) := Lib.hid (by rw [hE.out, hsp]; rfl)
    have hL := Lib.hid (hLL.out hn.out)
    obtain ⟨r0, r1, r2, r3, r4, r5, r6, r7, r8, r9⟩ := rc_all hBD
    obtain ⟨hFg, hthr, hset⟩ := (hovD.ext (Ext.refl WD).drew).set hil hfh.out
    rw [show prow r = #[.int .i64 r.kind, .string (str r.name), .string (str r.par), .string (str r.user), .string (str r.serv), .string (str r.url), .int .i64 r.made, .int .i64 r.used, .int .i64 r.uses, .bool r.fresh].toList from by unfold prow; rw [rc_lit r]] at hset
    have cp : WD.cell? ⟨p, 1, none⟩ = some (.slice (some ⟨g, 0, none⟩) l.length cap) := cell_at hv0D 1 rfl
    have hsth := Lib.hid hset
    have hv0h := Lib.hid hv0D
    have eDh := Lib.hid eD
    have hsD := eD.size
    have hpW := hFp.2
    clear hset hovD hv0D eD hBD
    go_upto_region 8 with fail
    go_still_tail 7, (by kernel_rfl)
    refine wpList_store_mid rfl 36 _ _ rfl g (i * 10) _ rfl rfl hthr info_rec (by rw [← rc_lit r]; exact rc_one r) ?_
    generalize hW6 : World.setCells _ g (i * 10) _ = W6
    have c5 : Chg (fun k => k = g) WD W6 := by
      rw [← hW6]
      exact (Chg.of_ext (Ext.refl WD).drew).trans (setCells_chg (p := fun k => k = g) g rfl _ _ _)
    have hset : OwnR W6 (fun k => (F k ∧ k < w.heap.size) ∧ k ≠ p) (.slice (some ⟨g, 0, none⟩) l.length cap) (l.set i r) := by
      rw [← hW6]
      exact hsth.out
    clear hW6
    have hp6 := Lib.hid ((c5.block p (Nat.lt_of_lt_of_le hpW hsD) (fun e => hFg.2 e.symm)).trans hv0h.out)
    have hch := Lib.hid ((Chg.of_ext eDh.out : Chg F w WD).then c5 (fun k _ h => by rw [h]; exact hFg.1.1))
    have hse := Lib.hid hset
    clear c5 hset r0 r1 r2 r3 r4 r5 r6 r7 r8 r9 cp hthr
    refine wpList_nil ?_
    go_frame
    go_wp2
    go_ret
    exact ⟨by rw [hn.out]; rfl, by rw [hL.out]; exact ⟨_, hp6.out, .inl hFp.1, hse.out.mono fun k hk => .inl hk.1.1⟩, hch.out⟩
end Go.Proofs.YtmdepmohfnficaaDoor
