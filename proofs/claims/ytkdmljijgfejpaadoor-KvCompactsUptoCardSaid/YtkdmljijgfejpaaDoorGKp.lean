/- What Commits and Compacts leave, plain: calm, under faults, stopped and crashed. -/
import Derived.Test.YtkdmljijgfejpaaDoorGKw
namespace Go.Proofs.YtkdmljijgfejpaaDoor
set_option linter.unusedVariables false
set_option linter.unusedSimpArgs false
open Kv Dk Wl Fr

/-- a log that tells L -/
def KI (c : Nat) (g : Lg) (L : List Kv.Pr) : Prop := ∃ rs, Lw c g rs ∧ play rs = some L
theorem KI.srt {c : Nat} {g : Lg} {L : List Kv.Pr} (h : KI c g L) : Srt L := let ⟨_, _, h⟩ := h; (play_good _ _ h).1
theorem KI.oks {c : Nat} {g : Lg} {L : List Kv.Pr} (h : KI c g L) : Oks L := let ⟨_, _, h⟩ := h; (play_good _ _ h).2
theorem KI.sane {c : Nat} {g : Lg} {L : List Kv.Pr} (h : KI c g L) : Sane g := let ⟨_, l, _⟩ := h; l.sane
theorem KI.st {c : Nat} {g : Lg} {L : List Kv.Pr} (h : KI c g L) : g.d.st = [] := let ⟨_, l, _⟩ := h; l.st
theorem KI.new {n : Nat} (h4 : 4 ≤ n) (h512 : n ≤ 512) (c : Nat) : KI c (g0 n) [] := ⟨[], new_log h4 h512 c, rfl⟩
/-- it is found -/
theorem KI.found {c : Nat} {g : Lg} {L : List Kv.Pr} (h : KI c g L) : openE g.d = 0 ∧ play (scan (openU g.d)) = some L ∧ openH g.d = g.h ∧ openU g.d = g.u := by
  obtain ⟨rs, l, hp⟩ := h
  obtain ⟨f1, f2, f3, f4⟩ := l.found
  exact ⟨f3, by rw [f2, f4]; exact hp, f1, f2⟩
theorem op_five {o : Lo} {g : Lg} (h : (opL o g).1 = 5) : (opL o g).2 = g := by
  unfold opL at h ⊢
  cases hp : planL o g.d.n g.h g.u with
  | inl e => rfl
  | inr t =>
    obtain ⟨h', u', i0⟩ := t
    rw [hp] at h
    simp only [putL] at h
    split at h <;> cases h
theorem errAll_snap {L : List Kv.Pr} (h : Oks L) : errAll (snap L) = 0 := errAll_ok.2 (List.all_eq_true.2 fun r hr => errOf_ok.1 (by
  obtain ⟨h1, h2⟩ := snap_fits h r hr
  unfold errOf
  rw [if_neg (by omega), if_neg (by omega)]))
theorem com_five {cs : List Ch} {g : Lg} (L : List Kv.Pr) (hE : encE cs = 0 ∧ cs ≠ []) (h5 : (opL (.app (encB cs)) g).1 = 5) :
    comL cs g L = ((opL (.rep (snap (after L cs))) g).1, (opL (.rep (snap (after L cs))) g).2, if (opL (.rep (snap (after L cs))) g).1 = 0 then after L cs else L) := by
  unfold comL; rw [if_pos hE, if_pos h5, op_five h5]
theorem com_one {cs : List Ch} {g : Lg} (L : List Kv.Pr) (hE : encE cs = 0 ∧ cs ≠ []) (h5 : ¬ (opL (.app (encB cs)) g).1 = 5) :
    comL cs g L = ((opL (.app (encB cs)) g).1, (opL (.app (encB cs)) g).2, if (opL (.app (encB cs)) g).1 = 0 then after L cs else L) := by
  unfold comL; rw [if_pos hE, if_neg h5]
theorem com_none {cs : List Ch} (g : Lg) (L : List Kv.Pr) (hE : ¬ (encE cs = 0 ∧ cs ≠ [])) : comL cs g L = (encE cs, g, L) := by unfold comL; rw [if_neg hE]
theorem op_gen (o : Lo) (g : Lg) : (opL o g).2.h.gen ≤ g.h.gen + 1 := by
  unfold opL
  cases o with
  | app b =>
    rcases planL_app b g.d.n g.h g.u with ⟨_, q⟩ | ⟨_, _, q⟩ | ⟨_, _, q⟩ <;> rw [q]
    · exact Nat.le_succ _
    · exact Nat.le_succ _
    · simp only [putL]
      split
      · exact Nat.le_refl _
      · exact Nat.le_succ _
  | rep ls =>
    rcases planL_rep ls g.d.n g.h g.u with ⟨_, q⟩ | ⟨_, _, q⟩ | ⟨_, _, q⟩ <;> rw [q]
    · exact Nat.le_succ _
    · exact Nat.le_succ _
    · simp only [putL]
      split
      · exact Nat.le_refl _
      · exact Nat.le_succ _
/-! ### Compact -/
theorem cpt_calm {c : Nat} {g : Lg} {L : List Kv.Pr} (h : KI c g L) :
    KI c (opL (.rep (snap L)) g).2 L ∧ (opL (.rep (snap L)) g).2.d.n = g.d.n ∧ ((opL (.rep (snap L)) g).1 = 0 ∨ (opL (.rep (snap L)) g).1 = 5) := by
  obtain ⟨rs, l, hp⟩ := h
  obtain ⟨hs, ho⟩ := play_good _ _ hp
  rcases op_calm (.rep (snap L)) l with ⟨e, h1, h2, h3⟩ | ⟨d', h', u', i0, _, h2, h3, h4⟩
  · rw [h2]
    refine ⟨⟨rs, l, hp⟩, rfl, .inr ?_⟩
    rcases planL_rep (snap L) g.d.n g.h g.u with ⟨q1, _⟩ | ⟨_, _, q⟩ | ⟨_, _, q⟩
    · exact absurd (errAll_snap ho) q1
    · rw [q] at h1; cases h1; rfl
    · rw [q] at h1; cases h1
  · rw [h2]
    exact ⟨⟨_, h3, play_snap hs ho⟩, h4, .inl rfl⟩
/-! ### Commit -/
theorem com_calm {c : Nat} {g : Lg} {L : List Kv.Pr} (h : KI c g L) (cs : List Ch) :
    KI c (comL cs g L).2.1 (comL cs g L).2.2 ∧ (comL cs g L).2.1.d.n = g.d.n ∧ (comL cs g L).2.1.h.gen ≤ g.h.gen + 1 ∧ (((comL cs g L).1 = 0 ∧ (comL cs g L).2.2 = after L cs) ∨ ((comL cs g L).1 ≠ 0 ∧ (comL cs g L).2.2 = L)) := by
  by_cases hE : encE cs = 0 ∧ cs ≠ []
  · obtain ⟨rs, l, hp⟩ := id h
    obtain ⟨hs, ho⟩ := play_good _ _ hp
    have hs2 := after_srt cs hs
    have ho2 := after_oks cs hs ho (encE_zero.1 hE.1).1
    have hgen := op_gen (.app (encB cs)) g
    by_cases h5 : (opL (.app (encB cs)) g).1 = 5
    · have hg := op_five h5
      have e : comL cs g L = ((opL (.rep (snap (after L cs))) g).1, (opL (.rep (snap (after L cs))) g).2, if (opL (.rep (snap (after L cs))) g).1 = 0 then after L cs else L) := by
        unfold comL; rw [if_pos hE, if_pos h5, hg]
      have hgen2 := op_gen (.rep (snap (after L cs))) g
      rw [e]
      rcases op_calm (.rep (snap (after L cs))) l with ⟨e, _, h2, h3⟩ | ⟨d', h', u', i0, _, h2, h3, h4⟩
      · rw [h2]
        have he : e ≠ 0 := by omega
        exact ⟨by rw [if_neg he]; exact h, rfl, Nat.le_succ _, .inr ⟨he, by rw [if_neg he]⟩⟩
      · rw [h2] at hgen2 ⊢
        exact ⟨⟨_, h3, by rw [if_pos rfl]; exact play_snap hs2 ho2⟩, h4, hgen2, .inl ⟨rfl, by rw [if_pos rfl]⟩⟩
    · have e : comL cs g L = ((opL (.app (encB cs)) g).1, (opL (.app (encB cs)) g).2, if (opL (.app (encB cs)) g).1 = 0 then after L cs else L) := by
        unfold comL; rw [if_pos hE, if_neg h5]
      rw [e]
      rcases op_calm (.app (encB cs)) l with ⟨e, _, h2, h3⟩ | ⟨d', h', u', i0, _, h2, h3, h4⟩
      · rw [h2]
        have he : e ≠ 0 := by omega
        exact ⟨by rw [if_neg he]; exact h, rfl, Nat.le_succ _, .inr ⟨he, by rw [if_neg he]⟩⟩
      · rw [h2] at hgen ⊢
        exact ⟨⟨_, h3, by rw [if_pos rfl]; exact play_one hp hE.1⟩, h4, hgen, .inl ⟨rfl, by rw [if_pos rfl]⟩⟩
  · have e : comL cs g L = (encE cs, g, L) := by unfold comL; rw [if_neg hE]
    rw [e]
    refine ⟨h, rfl, Nat.le_succ _, ?_⟩
    by_cases h0 : encE cs = 0
    · have : cs = [] := by
        by_cases hc : cs = []
        · exact hc
        · exact absurd ⟨h0, hc⟩ hE
      exact .inl ⟨h0, by rw [this]; rfl⟩
    · exact .inr ⟨h0, rfl⟩
/-- a Commit that fails at a call of the disk -/
theorem com_fail {c : Nat} {g : Lg} {L : List Kv.Pr} (h : KI c g L) (cs : List Ch) (k : Nat) :
    let r := comL cs ⟨faults (List.replicate k false ++ [true]) g.d, g.h, g.u⟩ L
    (r.1 = 0 ∧ r.2.2 = after L cs ∧ KI c ⟨faults [] r.2.1.d, r.2.1.h, r.2.1.u⟩ (after L cs)) ∨ (r.1 ≠ 0 ∧ r.2.2 = L ∧ KI c ⟨faults [] r.2.1.d, r.2.1.h, r.2.1.u⟩ L) := by
  show ((comL cs ⟨faults (List.replicate k false ++ [true]) g.d, g.h, g.u⟩ L).1 = 0 ∧ _) ∨ _
  obtain ⟨rs, l, hp⟩ := id h
  obtain ⟨hs, ho⟩ := play_good _ _ hp
  by_cases hE : encE cs = 0 ∧ cs ≠ []
  · have hs2 := after_srt cs hs
    have ho2 := after_oks cs hs ho (encE_zero.1 hE.1).1
    by_cases h5 : (opL (.app (encB cs)) ⟨faults (List.replicate k false ++ [true]) g.d, g.h, g.u⟩).1 = 5
    · have hg := op_five h5
      have hf := op_fail (.rep (snap (after L cs))) l k
      rw [com_five L hE h5]
      generalize opL (.rep (snap (after L cs))) ⟨faults (List.replicate k false ++ [true]) g.d, g.h, g.u⟩ = R at *
      rcases hf with ⟨f1, f2, f3⟩ | ⟨f1, f2, f3, f4, f5⟩
      · exact .inl ⟨f1, if_pos f1, _, f3, play_snap hs2 ho2⟩
      · exact .inr ⟨f1, if_neg f1, rs, by rw [f2, f3]; exact f5, hp⟩
    · have hf := op_fail (.app (encB cs)) l k
      rw [com_one L hE h5]
      generalize opL (.app (encB cs)) ⟨faults (List.replicate k false ++ [true]) g.d, g.h, g.u⟩ = R at *
      rcases hf with ⟨f1, f2, f3⟩ | ⟨f1, f2, f3, f4, f5⟩
      · exact .inl ⟨f1, if_pos f1, _, f3, play_one hp hE.1⟩
      · exact .inr ⟨f1, if_neg f1, rs, by rw [f2, f3]; exact f5, hp⟩
  · have hk : KI c ⟨faults [] (faults (List.replicate k false ++ [true]) g.d), g.h, g.u⟩ L := by
      have hf := op_fail (.app []) l k
      have : opL (.app []) ⟨faults (List.replicate k false ++ [true]) g.d, g.h, g.u⟩ = (1, ⟨faults (List.replicate k false ++ [true]) g.d, g.h, g.u⟩) := rfl
      rw [this] at hf
      rcases hf with ⟨f1, -⟩ | ⟨f1, f2, f3, f4, f5⟩
      · cases f1
      · exact ⟨rs, f5, hp⟩
    rw [com_none _ L hE]
    by_cases h0 : encE cs = 0
    · have hc : cs = [] := by
        by_cases hc : cs = []
        · exact hc
        · exact absurd ⟨h0, hc⟩ hE
      subst hc
      exact .inl ⟨h0, rfl, hk⟩
    · exact .inr ⟨h0, rfl, hk⟩
/-- what is found behind a stop and a crash -/
theorem found_crash {c : Nat} {d : D} {h : H} {u : List UInt8} {rs : List (List UInt8)} {L : List Kv.Pr} (l : Lw c ⟨d, h, u⟩ rs) (hp : play rs = some L) : openE d = 0 ∧ play (scan (openU d)) = some L := by
  obtain ⟨f1, f2, -, -⟩ := KI.found ⟨rs, l, hp⟩
  exact ⟨f1, f2⟩
theorem com_stop {c : Nat} {g : Lg} {L : List Kv.Pr} (h : KI c g L) (cs : List Ch) (s : Nat) (cuts : List UInt8) (hc : cutAt cuts 0 = c) :
    let r := comL cs ⟨stop s g.d, g.h, g.u⟩ L
    ∃ L', openE (crash cuts r.2.1.d) = 0 ∧ play (scan (openU (crash cuts r.2.1.d))) = some L' ∧ ((r.1 = 0 ∧ L' = after L cs) ∨ (r.1 ≠ 0 ∧ L' = L) ∨ (r.1 = 21 ∧ L' = after L cs)) := by
  show ∃ L', openE (crash cuts (comL cs ⟨stop s g.d, g.h, g.u⟩ L).2.1.d) = 0 ∧ _
  obtain ⟨rs, l, hp⟩ := id h
  obtain ⟨hs, ho⟩ := play_good _ _ hp
  by_cases hE : encE cs = 0 ∧ cs ≠ []
  · have hs2 := after_srt cs hs
    have ho2 := after_oks cs hs ho (encE_zero.1 hE.1).1
    by_cases h5 : (opL (.app (encB cs)) ⟨stop s g.d, g.h, g.u⟩).1 = 5
    · have hg := op_five h5
      obtain ⟨-, -, hh, u, hk⟩ := op_stop (.rep (snap (after L cs))) l s cuts hc
      rw [com_five L hE h5]
      generalize opL (.rep (snap (after L cs))) ⟨stop s g.d, g.h, g.u⟩ = R at *
      rcases hk with ⟨f1, f2⟩ | ⟨f1, f2⟩ | ⟨f1, f2⟩
      · obtain ⟨k1, k2⟩ := found_crash f2 (play_snap hs2 ho2); exact ⟨_, k1, k2, .inl ⟨f1, rfl⟩⟩
      · obtain ⟨k1, k2⟩ := found_crash f2 hp; exact ⟨_, k1, k2, .inr (.inl ⟨f1, rfl⟩)⟩
      · obtain ⟨k1, k2⟩ := found_crash f2 (play_snap hs2 ho2); exact ⟨_, k1, k2, .inr (.inr ⟨f1, rfl⟩)⟩
    · obtain ⟨-, -, hh, u, hk⟩ := op_stop (.app (encB cs)) l s cuts hc
      rw [com_one L hE h5]
      generalize opL (.app (encB cs)) ⟨stop s g.d, g.h, g.u⟩ = R at *
      rcases hk with ⟨f1, f2⟩ | ⟨f1, f2⟩ | ⟨f1, f2⟩
      · obtain ⟨k1, k2⟩ := found_crash f2 (play_one hp hE.1); exact ⟨_, k1, k2, .inl ⟨f1, rfl⟩⟩
      · obtain ⟨k1, k2⟩ := found_crash f2 hp; exact ⟨_, k1, k2, .inr (.inl ⟨f1, rfl⟩)⟩
      · obtain ⟨k1, k2⟩ := found_crash f2 (play_one hp hE.1); exact ⟨_, k1, k2, .inr (.inr ⟨f1, rfl⟩)⟩
  · have hk : openE (crash cuts (stop s g.d)) = 0 ∧ play (scan (openU (crash cuts (stop s g.d)))) = some L := by
      obtain ⟨-, -, hh, u, hk⟩ := op_stop (.app []) l s cuts hc
      have : opL (.app []) ⟨stop s g.d, g.h, g.u⟩ = (1, ⟨stop s g.d, g.h, g.u⟩) := rfl
      rw [this] at hk
      rcases hk with ⟨f1, -⟩ | ⟨f1, f2⟩ | ⟨f1, -⟩
      · cases f1
      · exact found_crash f2 hp
      · cases f1
    rw [com_none _ L hE]
    by_cases h0 : encE cs = 0
    · have hc : cs = [] := by
        by_cases hc : cs = []
        · exact hc
        · exact absurd ⟨h0, hc⟩ hE
      subst hc
      exact ⟨L, hk.1, hk.2, .inl ⟨h0, rfl⟩⟩
    · exact ⟨L, hk.1, hk.2, .inr (.inl ⟨h0, rfl⟩)⟩
end Go.Proofs.YtkdmljijgfejpaaDoor


namespace Go.Proofs.YtkdmljijgfejpaaDoor
set_option linter.unusedVariables false
set_option linter.unusedSimpArgs false
open Go.RowKit Kv Dk Wl Fr

section
variable {w : World} {F : Nat → Prop} {s p : Nat} {g : Lg} {L : List Kv.Pr}
theorem kvFaults_m (h : StM w F s p g L) (v : Value) (ps : List Bool) (hl : ps.length ≤ 1048576) (hv : Sl bv w v ps) :
    Calls Tryd.prog 23 #[.pointer (some ⟨p, 0, none⟩), v] w fun e w' => e = .returned (.tuple #[]) ∧ Chg F w w' ∧ StM w' (grow F w) s p ⟨faults ps g.d, g.h, g.u⟩ L := by
  obtain ⟨G, hD, hGF, hGs, hk⟩ := h.disk
  exact (faults_any hD v ps hl hv).mono fun e w' ⟨h1, h2, h3⟩ => ⟨h1, h2.mono hGF, hk _ _ h2 h3⟩
theorem kvStop_m (h : StM w F s p g L) (n : Int) (hn1 : -9223372036854775808 ≤ n) (hn2 : n ≤ 9223372036854775807) :
    Calls Tryd.prog 26 #[.pointer (some ⟨p, 0, none⟩), .int .i64 n] w fun e w' => e = .returned (.tuple #[]) ∧ Chg F w w' ∧ StM w' (grow F w) s p ⟨stop n g.d, g.h, g.u⟩ L := by
  obtain ⟨G, hD, hGF, hGs, hk⟩ := h.disk
  refine (stop_any hD n hn1 hn2).mono fun e w' ⟨h1, h2, h3⟩ => ?_
  have c := h2.mono (q := G) fun k hk => by rw [hk]; exact hD.hd
  exact ⟨h1, c.mono hGF, hk _ _ c (h3.mono fun k hk => .inl hk)⟩
theorem kvCrash_m (h : StM w F s p g L) (v : Value) (cuts : List UInt8) (hv : ∀ w', Chg F w w' → Bytes w' v cuts) :
    Calls Tryd.prog 27 #[.pointer (some ⟨p, 0, none⟩), v] w fun e w' => e = .returned (.tuple #[]) ∧ Chg F w w' ∧ StM w' (grow F w) s p ⟨crash cuts g.d, g.h, g.u⟩ L := by
  obtain ⟨G, hD, hGF, hGs, hk⟩ := h.disk
  exact (crash_any hD v cuts (fun w' c => hv w' (c.mono hGF))).mono fun e w' ⟨h1, h2, h3⟩ => ⟨h1, h2.mono hGF, hk _ _ h2 (h3.mono fun k hk => .inl hk)⟩
theorem kvStaged_m (h : StM w F s p g L) :
    Calls Tryd.prog 25 #[.pointer (some ⟨p, 0, none⟩)] w fun e w' => e = .returned (.int .i64 (g.d.st.length : Int)) ∧ w = w' := by
  obtain ⟨G, hD, hGF, hGs, hk⟩ := h.disk
  exact staged_any hD
/-- its disk opened anew: another store; the old one stays as it was -/
theorem kvOpen_m (h : StM w F s p g L) (hw : Halves w) {L' : List Kv.Pr} (hE : openE g.d = 0) (hp : play (scan (openU g.d)) = some L') :
    Calls Tryd.prog 16 #[.pointer (some ⟨p, 0, none⟩)] w (Ret fun r w' => ∃ s', r = .tuple #[.pointer (some ⟨s', 0, none⟩), .int .i64 0] ∧ Ext w w' ∧ StM w' (grow F w) s' p ⟨g.d, openH g.d, openU g.d⟩ L') := by
  obtain ⟨G, hD, hGF, hGs, hk⟩ := h.disk
  refine (kvOpen_any hD hGF hw hp).mono fun e w' ⟨r, h1, e2, h3⟩ => ⟨r, h1, ?_⟩
  rcases h3 with ⟨h0, -⟩ | ⟨-, s', h4, h5, h6⟩
  · exact absurd hE h0
  · exact ⟨s', h4, e2, h6⟩
set_option maxRecDepth 20000 in
theorem kvRoom_m (h : StM w F s p g L) (sn : Sane g) :
    Calls Tryd.prog 29 #[.pointer (some ⟨s, 0, none⟩)] w fun e w' => e = .returned (.int .i64 ((32 * areaN g.d.n - g.h.used : Nat) : Int)) ∧ Ext w w' := by
  obtain ⟨G, q, m, h⟩ := h
  obtain ⟨c0, c1⟩ := h.cells
  have hR := lroom_m h.log sn
  generalize ((32 * areaN g.d.n - g.h.used : Nat) : Int) = R at *
  clear h sn
  go_enter Tryd.func29, Tryd.ntmps29
  go_wp2_with (go_at_call 47; refine hR.mono ?_; rintro e w2 ⟨rfl, e2⟩)
  go_ret
  exact ⟨rfl, e2⟩
end
attribute [local irreducible] opL
set_option maxRecDepth 20000 in
set_option maxHeartbeats 4000000 in
theorem kvCompact_any {w : World} {F : Nat → Prop} {s p : Nat} {g : Lg} {L : List Kv.Pr} (h : StM w F s p g L) (hs : Sane g) (hst : g.d.st.length ≤ 90000) (hw : Halves w) (hh : ¬ F 1) (hl : L.length ≤ 40000) (ho : Oks L) :
    Calls Tryd.prog 28 #[.pointer (some ⟨s, 0, none⟩)] w fun e w' => e = .returned (.int .i64 (opL (.rep (snap L)) g).1) ∧ Chg F w w' ∧ StM w' (grow F w) s p (opL (.rep (snap L)) g).2 L := by
  refine gen_post ?_
  intro Q0 hQ0
  obtain ⟨G, q, m, h⟩ := h
  obtain ⟨c0, c1⟩ := h.cells
  have hgl := Lib.hid (show ¬ G 1 from fun hk => hh (h.sub _ hk).1)
  have hSP := Lib.hid (fun (W : World) (e : Ext w W) => snapOk_any m L W (h.map.ext e) ho hl)
  have hR := Lib.hid (fun (W : World) (e : Ext w W) (vl : Value) (hv : LL W vl (snap L)) => lreplace_any (h.log.ext e) hs (by omega) (hw.ext e) hgl.out hv (by have := snap_len L; omega))
  have hkh := Lib.hid h
  generalize opL (.rep (snap L)) g = R at *
  obtain ⟨E, g1⟩ := R
  dsimp only at hR hQ0
  clear h hs hst hw hh hl ho hgl
  go_enter Tryd.func28, Tryd.ntmps28
  go_upto_region 1 with fail
  go_region_law (first
    | (go_simp; go_at_call 42; refine (hSP.out _ (by (repeat (first | exact Ext.refl _ | with_reducible assumption | refine Ext.drew ?_ | refine Ext.alloc ?_ _ | refine Ext.trans ?_ (by assumption))))).mono ?_; rintro e w4 ⟨u4, rfl, ll4, e4⟩; have c40 : w4.cell? ⟨s, 0, none⟩ = some (.pointer (some ⟨q, 0, none⟩)) := e4.cell c0; go_wp2_with fail)
    | (go_simp; go_at_call 41; refine (hR.out _ (by (repeat (first | exact Ext.refl _ | with_reducible assumption | refine Ext.drew ?_ | refine Ext.alloc ?_ _ | refine Ext.trans ?_ (by assumption)))) _ (by first | exact ll4 | exact ll4.ext (Ext.refl _).drew)).mono ?_; rintro e w5 ⟨rfl, c5, l5⟩; go_wp2_with fail))
  all_goals
    have k5 := (hkh.out.ext ((Ext.refl w).drew.trans e4)).op c5 l5
    have d5 : Chg F w w5 := (Chg.of_ext ((Ext.refl w).drew.trans e4)).trans (c5.mono fun j hj => (hkh.out.sub j hj).1)
    have hsz := ((Ext.refl w).drew.trans e4).size
    have k5h := Lib.hid (k5.mono (F' := grow F w) fun j hj => hj.imp id fun h => Nat.le_trans hsz h)
    have d5h := Lib.hid d5
    clear k5 d5 c5 l5
    go_wp2
    go_frame
    go_ret
    exact hQ0.out _ _ ⟨rfl, d5h.out, _, _, _, k5h.out⟩
end Go.Proofs.YtkdmljijgfejpaaDoor


