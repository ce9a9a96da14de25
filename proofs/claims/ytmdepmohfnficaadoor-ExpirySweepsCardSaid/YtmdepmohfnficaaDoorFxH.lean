/- Package expiry: Sweep, whole. -/
import Derived.Test.YtmdepmohfnficaaDoorFxG
namespace Go.Proofs.YtmdepmohfnficaaDoor
set_option linter.unusedVariables false
set_option linter.unusedSimpArgs false
open Go.RowKit Rk Tr

namespace Tr
theorem sweep_step {l : List Rec} {f : Nat → Int} {now : Int} {k : Nat} {r : Rec} (h : l[k]? = some r) : ((l.take (k + 1)).filter fun r => topI l f now r.name).map (·.name) = ((l.take k).filter fun r => topI l f now r.name).map (·.name) ++ if topI l f now r.name then [r.name] else [] := by
  rw [List.take_add_one, h, List.filter_append, List.map_append]
  cases ht : topI l f now r.name <;> simp [ht]
theorem sweep_len (l : List Rec) (f : Nat → Int) (now : Int) (k : Nat) : (((l.take k).filter fun r => topI l f now r.name).map (·.name)).length ≤ k := by
  rw [List.length_map]
  refine Nat.le_trans (List.length_filter_le _ _) ?_
  rw [List.length_take]; omega
end Tr
theorem Own.le {E : TypeId} {w : World} {a b : Nat} {v : Value} {l : List (List UInt8)} (h : Own sv E w b v l) (hab : a ≤ b) : Own sv E w a v l := by
  obtain ⟨h1, h⟩ := h
  rcases h with h | ⟨g, cap, cur, h2, hb, r⟩
  · exact ⟨h1, .inl h⟩
  · exact ⟨h1, .inr ⟨g, cap, cur, h2, Nat.le_trans hab hb, r⟩⟩
theorem alloc3 (w : World) (A B C : Obj) : ((((w.alloc A).alloc B).alloc C).heap[w.heap.size]? = some A) ∧ ((((w.alloc A).alloc B).alloc C).heap[w.heap.size + 1]? = some B) ∧ ((((w.alloc A).alloc B).alloc C).heap[w.heap.size + 1 + 1]? = some C) := by
  have h1 := at_old2' w A B
  have h2 := at_new2' w A B
  have h3 := heap_alloc_new ((w.alloc A).alloc B) C
  have hs : ((w.alloc A).alloc B).heap.size = w.heap.size + 1 + 1 := by rw [alloc_size, alloc_size]
  rw [hs] at h3
  refine ⟨?_, ?_, h3⟩
  · rw [alloc_old _ _ (by rw [hs]; omega)]; exact h1
  · rw [alloc_old _ _ (by rw [hs]; omega)]; exact h2
theorem Sl.tl1 {w : World} {g q cap : Nat} {n : List UInt8} {T : List (List UInt8)} (h : SlAt sv w (some ⟨g, q, none⟩) cap (n :: T)) : Sl sv w (.slice (some ⟨g, q + 1, none⟩) T.length (cap - 1)) T := by
  obtain ⟨h1, h2, h3, h4⟩ := h
  rw [List.length_cons] at h1
  refine ⟨_, _, rfl, by omega, by omega, fun h => by simp at h, fun j x hj => ?_⟩
  obtain ⟨g', q', e, hc⟩ := h4 (j + 1) x (by simpa using hj)
  cases e
  exact ⟨g, q + 1, rfl, by rw [show q + 1 + j = q + (j + 1) by omega]; exact hc⟩
theorem Sl.tl0 {w : World} {g q cap : Nat} {n : List UInt8} {T : List (List UInt8)} (h : SlAt sv w (some ⟨g, q, none⟩) cap (n :: T)) : cap - 1 = 0 → Sl sv w (.slice (some ⟨g, q, none⟩) T.length 0) T := fun hc => by
  obtain ⟨h1, h2, h3, h4⟩ := h
  rw [List.length_cons] at h1
  have : T = [] := List.eq_nil_of_length_eq_zero (by omega)
  subst this
  exact ⟨_, _, rfl, Nat.le_refl _, by simp [maxLen], fun h => by simp at h, fun j x hj => by simp at hj⟩
attribute [local irreducible] pcA rcells liveI deadI topI
set_option maxRecDepth 20000 in
set_option maxHeartbeats 4000000 in
theorem sweep_any {F : Nat → Prop} {p room : Nat} {l : List Rec} (f : Nat → Int) (now : Int) {w : World} (h : TrM 96 w F p room l) (hok : Ok l) (hl : l.length ≤ 64) (ht : tmI now = true) :
    Calls Tryd.prog 29 #[.pointer (some ⟨p, 0, none⟩), .agg (pcA f), .int .i64 now] w (Ret fun u w' => Own sv 9 w' w.heap.size u (sweepI l f now) ∧ Ext w w') := by
  obtain ⟨b1, b2, b3⟩ := alloc3 w (.cells #[.pointer (some ⟨p, 0, none⟩)] 28) (.cells (pcA f) 25) (.cells #[.int .i64 now] 3)
  have e3 := (((Ext.refl w).alloc (.cells #[.pointer (some ⟨p, 0, none⟩)] 28)).alloc (.cells (pcA f) 25)).alloc (.cells #[.int .i64 now] 3)
  have hD := Lib.hid (fun W (e : Ext w W) g1 g2 g3 n => dead_any f now w.heap.size (w.heap.size + 1) (w.heap.size + 1 + 1) n (h.ext e) hok hl ht g1 g2 g3)
  have hP := Lib.hid (fun W (e : Ext w W) n => path_any n (h.ext e) hok (by omega))
  have hAl := Lib.hid (fun W (e : Ext w W) => all_any (h.ext e) (by omega))
  have hps := Lib.hid (fun k x (hx : l[k]? = some x) => path_step hok (ix_at hok.nodup hx) hx)
  have hS : RowKit.Hid (sweepI l f now = (l.filter fun r => topI l f now r.name).map (·.name)) := Lib.hid rfl
  have hT : RowKit.Hid (∀ n, topI l f now n = (deadI l f now n && !((path l n).tail.any (deadI l f now)))) := Lib.hid fun n => by unfold topI; rfl
  clear h hok ht
  go_enter Tryd.func29, Tryd.ntmps29
  go_upto_region 1 with fail
  generalize ((w.alloc (.cells #[.pointer (some ⟨p, 0, none⟩)] 28)).alloc (.cells (pcA f) 25)).alloc (.cells #[.int .i64 now] 3) = W3 at *
  have c1 := cell_at b1 0 (u := .pointer (some ⟨p, 0, none⟩)) rfl
  have b1h := Lib.hid b1
  have b2h := Lib.hid b2
  have b3h := Lib.hid b3
  have e3h := Lib.hid e3
  clear b1 b2 b3 e3
  have hA3 := hAl.out W3 e3h.out
  go_wp2_with (go_at_call 25; refine hA3.mono ?_; rintro e w4 ⟨_, rfl, o4, ⟨a4, c4, rfl⟩, e4⟩)
  obtain ⟨_, _, hq, -, hget⟩ := Rw.shape o4.recs
  cases hq
  have hgh := Lib.hid hget
  have e34 := Lib.hid e4
  have e04 := Lib.hid (e3h.out.trans e4)
  clear hA3 hAl o4 hget c1 e4
  go_loopw [8, 15] (fun out i wr => ∃ (k : Nat) (S : List (List UInt8)), k ≤ l.length ∧ i = .int .i64 (k : Int) ∧ RowKit.Hid (S = ((l.take k).filter fun r => topI l f now r.name).map (·.name)) ∧ (∃ a1 c1, out = .slice a1 S.length c1) ∧ RowKit.Hid (Own sv 9 wr w4.heap.size out S) ∧ Ext w4 wr) (fun _ i _ => l.length - (intOf i).toNat)
  case atStart => exact ⟨0, [], Nat.zero_le _, rfl, Lib.hid rfl, ⟨none, 0, rfl⟩, Lib.hid (Own.nil _ _ _), Ext.refl _⟩
  case round =>
    obtain ⟨k, S, hk, rfl, hSk, ⟨a1, c1', rfl⟩, ho, ek⟩ := hrel
    by_cases hlt : k < l.length
    · obtain ⟨x, hx⟩ := some_at hlt
      obtain ⟨g, o, cs, rfl, hrr, rfl, -⟩ := hgh.out k x hx
      have hki : (k : Int) < (l.length : Int) := by omega
      have hw : IntKind.i64.wrap ((k : Int) + 1) = (k : Int) + 1 := by rw [IntKind.wrap_i64]; omega
      have hr2 : wr.rangeAt g (o + k * 10) (prow x) := fun i u hu => ek.cell (hrr i u hu)
      have hst := Lib.hid (sweep_step (f := f) (now := now) hx)
      have hSl := Lib.hid (show S.length ≤ 64 from by rw [hSk.out]; have := sweep_len l f now k; omega)
      have hp1 := Lib.hid (hps.out k x hx)
      have hTx := Lib.hid (hT.out x.name)
      clear hrr hx
      go_upto_region 6 with (first
        | (refine wpList_load_rec (by rfl) _ rfl g (o + k * 10) rfl x hr2 ?_)
        | (refine wpList_store_new wr rfl 36 _ _ rfl (rcells x) _ rfl rfl rfl 10 info_rec (rc_ten x) rfl (rc_one x) ?_))
      go_frame
      have hb5 := heap_alloc_new wr (.cells (rcells x) 36)
      have k1 := cell_at hb5 1 (rc_cells x).2.1
      have e5 := ek.alloc (.cells (rcells x) 36)
      have ho5 := Lib.hid (ho.out.alloc (.cells (rcells x) 36))
      generalize wr.alloc (.cells (rcells x) 36) = w5 at *
      generalize wr.heap.size = B5 at *
      have e05 := Lib.hid (e04.out.trans e5)
      have g35 := e34.out.trans e5
      have d1 := g35.cell (cell_at b1h.out 0 (u := .pointer (some ⟨p, 0, none⟩)) rfl)
      have hDx := hD.out w5 e05.out (g35.heap b1h.out) (g35.heap b2h.out) (g35.heap b3h.out) x.name
      have g35h := Lib.hid g35
      clear hr2 hb5 ek ho g35
      go_cut [32] (fun b wd => b = .bool (topI l f now x.name) ∧ Ext w5 wd)
      case first =>
        cases hd : deadI l f now x.name
        · rw [hd] at hDx
          have hF := Lib.hid (hTx.out.trans (by rw [hd]; rfl : _ = false))
          go_wp2_with (go_at_call 65; refine hDx.mono ?_; rintro e w6 ⟨rfl, e6⟩; go_wp2_with fail)
          go_meet
          exact ⟨by rw [hF.out], e6⟩
        · rw [hd] at hDx
          obtain ⟨T, hTl⟩ : ∃ T, T = (path l x.name).tail := ⟨_, rfl⟩
          have hF := Lib.hid (hTx.out.trans (by rw [hd, ← hTl, Bool.true_and] : _ = !(T.any (deadI l f now))))
          have hpT : path l x.name = x.name :: T := by rw [hTl, hp1.out]; rfl
          have hPx := Lib.hid (fun W (e : Ext w W) => hP.out W e x.name)
          rw [hpT] at hPx
          have i1 : (1 : Int) ≤ ((x.name :: T).length : Int) := by rw [List.length_cons]; omega
          have k1h := Lib.hid k1
          have d1h := Lib.hid d1
          have hpTh := Lib.hid hpT
          clear hpT hTl
          have hDW := Lib.hid (fun W (e : Ext w5 W) n => hD.out W (e05.out.trans e) ((g35h.out.trans e).heap b1h.out) ((g35h.out.trans e).heap b2h.out) ((g35h.out.trans e).heap b3h.out) n)
          go_wp2_with (first
            | (go_at_call 65; refine hDx.mono ?_; rintro e w6 ⟨rfl, e6⟩; have k16 := e6.cell k1h.out; have d16 := e6.cell d1h.out; go_wp2_with (go_at_call 35; refine (hPx.out w6 (e05.out.trans e6)).mono ?_; rintro e w7 ⟨_, rfl, o7, e7⟩; obtain ⟨a7, c7, rfl, s7⟩ := o7.sl; obtain ⟨g7, q7, rfl, -⟩ := s7.cells 0 x.name rfl; have t1 := Lib.hid (Sl.tl1 s7); have t2 := Lib.hid (Sl.tl0 s7); have e57 := Lib.hid (e6.trans e7); clear s7; go_wp2_with (go_at_call 66; (first | refine (containsDead_any _ T (deadI l f now) _ _ _ w7 t1.out (fun W n e => hDW.out W (e57.out.trans e) n)).mono ?_ | refine (containsDead_any _ T (deadI l f now) _ _ _ w7 (t2.out (by omega)) (fun W n e => hDW.out W (e57.out.trans e) n)).mono ?_); rintro e w8 ⟨rfl, e8⟩; go_wp2_with fail)))
            )
          all_goals go_meet
          all_goals exact ⟨by rw [hF.out], e57.out.trans e8⟩
      case rest =>
        obtain ⟨rfl, e6⟩ := hcut
        have k16 := e6.cell k1
        have e46 := e5.trans e6
        have ho6 := Lib.hid (ho5.out.ext e6)
        have hsz := Lib.hid e46.size
        clear hDx d1 k1 e5 e6 g35h ho5
        cases ht : topI l f now x.name
        · have hS2 := Lib.hid (show S = ((l.take (k + 1)).filter fun r => topI l f now r.name).map (·.name) from by rw [hst.out, ht, hSk.out]; simp)
          clear hst hSk
          go_wp2
          go_roundw
          case rel => exact ⟨k + 1, S, by omega, by go_num, hS2, ⟨_, _, rfl⟩, ho6, e46⟩
          case measure => simp [intOf]; omega
        · have hS2 := Lib.hid (show S ++ [x.name] = ((l.take (k + 1)).filter fun r => topI l f now r.name).map (·.name) from by rw [hst.out, ht, hSk.out]; simp)
          clear hst hSk
          go_wp2_with (refine wpList_appendS (enc := sv) Tryd.underlying39 info_strS rfl (fun _ => rfl) rfl _ _ rfl w4.heap.size (.slice a1 S.length c1') S rfl (ho6.out.alloc _) _ [x.name] rfl (Sl.lit rfl rfl rfl (by decide) (by decide)) (by have := hSl.out; simp only [List.length_singleton]; omega) (by have := hSl.out; simp only [List.length_singleton]; omega) (Nat.le_trans hsz.out ((Ext.refl wc).alloc _).size) ?_; intro v3 w3 o3 g3; obtain ⟨a3, cap3, rfl⟩ := o3.shapeN)
          rw [List.length_append, List.length_singleton] at o3
          have e4w := Lib.hid ((e46.alloc (.cells #[.string (str x.name)] 9)).grown g3 fun k hk => ho6.out.lt k hk)
          go_roundw
          case rel => exact ⟨k + 1, S ++ [x.name], by omega, by go_num, hS2, ⟨a3, cap3, by rw [List.length_append]; rfl⟩, Lib.hid o3, e4w.out⟩
          case measure => simp [intOf]; omega
    · obtain rfl : k = l.length := by omega
      have hS2 := hSk.out
      rw [List.take_length, ← hS.out] at hS2
      have hS2h := Lib.hid hS2
      have e0k := Lib.hid (e04.out.trans ek)
      clear hSk hS2
      go_wp2
      go_ret
      exact Ret.mk ⟨by rw [← hS2h.out]; exact ho.out.le e04.out.size, e0k.out⟩
end Go.Proofs.YtmdepmohfnficaaDoor
