/- WalPlays: what is done, plain; a log's every thing; both logs side by side. -/
import Derived.Test.YtmpjcnopakfdmaaDoorWlZd
import Derived.Test.YtmpjcnopakfdmaaDoorWlW
namespace Go.Proofs.YtmpjcnopakfdmaaDoor
set_option linter.unusedVariables false
set_option linter.unusedSimpArgs false
open Go.RowKit Dk Wl Fr

/-- the head, the bytes and the records fit -/
structure Fit (g : Lg) (rs : List (List UInt8)) : Prop where
  sane : Sane g
  u : g.u = all rs
  er : errAll rs = 0
theorem putL_eq (h' : H) (u' : List UInt8) (i0 : Nat) (g : Lg) : ((putL h' u' i0 g).1 = 0 ∧ (putL h' u' i0 g).2.u = u') ∨ ((putL h' u' i0 g).1 ≠ 0 ∧ (putL h' u' i0 g).2.u = g.u) := by
  have e : putL h' u' i0 g = if (run (calls (areaN g.d.n) h' u' i0) g.d).1 then (0, ⟨(run (calls (areaN g.d.n) h' u' i0) g.d).2, h', u'⟩) else (21, ⟨(run (calls (areaN g.d.n) h' u' i0) g.d).2, g.h, g.u⟩) := rfl
  rw [e]
  generalize run (calls (areaN g.d.n) h' u' i0) g.d = R
  obtain ⟨b, d'⟩ := R
  cases b
  · exact .inr ⟨by show (21 : Int) ≠ 0; decide, rfl⟩
  · exact .inl ⟨rfl, rfl⟩
theorem op_fit (o : Lo) {g : Lg} {rs : List (List UInt8)} (f : Fit g rs) (hok : g.d.Ok) : Fit (opL o g).2 (if (opL o g).1 = 0 then nextR o rs else rs) := by
  have hs := (op_sane o f.sane hok).1
  have key : ((opL o g).1 = 0 ∧ (opL o g).2.u = all (nextR o rs) ∧ errAll (nextR o rs) = 0) ∨ ((opL o g).1 ≠ 0 ∧ (opL o g).2.u = g.u) := by
    cases o with
    | app b =>
      have hopL : opL (.app b) g = match planL (.app b) g.d.n g.h g.u with | .inl e => (e, g) | .inr (h', u', i0) => putL h' u' i0 g := rfl
      rcases planL_app b g.d.n g.h g.u with ⟨h0, hq⟩ | ⟨-, -, hq⟩ | ⟨h1, hf, hq⟩
      · rw [hopL, hq]; exact .inr ⟨h0, rfl⟩
      · rw [hopL, hq]; exact .inr ⟨by show (5 : Int) ≠ 0; decide, rfl⟩
      · rw [hopL, hq]
        rcases putL_eq ⟨g.h.gen + 1, g.h.area, g.h.used + (6 + b.length)⟩ (g.u ++ frm b) (g.h.used / 32) g with ⟨k1, k2⟩ | ⟨k1, k2⟩
        · refine .inl ⟨k1, ?_, ?_⟩
          · rw [k2]
            show _ = all (rs ++ [b])
            rw [all_append, f.u]; show _ ++ _ = _ ++ (frm b ++ []); rw [List.append_nil]
          · show errAll (rs ++ [b]) = 0
            rw [errAll_append rs [b] f.er]; show (if errOf b = 0 then (0 : Int) else errOf b) = 0; rw [if_pos h1]
        · exact .inr ⟨k1, k2⟩
    | rep ls =>
      have hopL : opL (.rep ls) g = match planL (.rep ls) g.d.n g.h g.u with | .inl e => (e, g) | .inr (h', u', i0) => putL h' u' i0 g := rfl
      rcases planL_rep ls g.d.n g.h g.u with ⟨h0, hq⟩ | ⟨-, -, hq⟩ | ⟨h1, hf, hq⟩
      · rw [hopL, hq]; exact .inr ⟨h0, rfl⟩
      · rw [hopL, hq]; exact .inr ⟨by show (5 : Int) ≠ 0; decide, rfl⟩
      · rw [hopL, hq]
        rcases putL_eq ⟨g.h.gen + 1, 1 - g.h.area, size ls⟩ (all ls) 0 g with ⟨k1, k2⟩ | ⟨k1, k2⟩
        · exact .inl ⟨k1, k2, h1⟩
        · exact .inr ⟨k1, k2⟩
  rcases key with ⟨h1, h2, h3⟩ | ⟨h1, h2⟩
  · rw [if_pos h1]; exact ⟨hs, h2, h3⟩
  · rw [if_neg h1]; exact ⟨hs, h2.trans f.u, f.er⟩
theorem Fit.recs {g : Lg} {rs : List (List UInt8)} (f : Fit g rs) : scan g.u = rs := by
  have := scan_all rs [] (errAll_ok.1 f.er)
  rw [List.append_nil, ← f.u] at this
  rw [this]; show rs ++ [] = rs; rw [List.append_nil]
theorem Fit.few {g : Lg} {rs : List (List UInt8)} (f : Fit g rs) : rs.length ≤ 9000 := by
  have h1 := sane_len f.sane
  rw [f.u, all_length] at h1
  have h2 : ∀ l : List (List UInt8), l.length ≤ size l := fun l => by
    induction l with
    | nil => exact Nat.le_refl _
    | cons x l ih => have : size (x :: l) = 6 + x.length + size l := by simp [size, Nat.add_comm, Nat.add_left_comm]
                     rw [List.length_cons]; omega
  have := h2 rs
  omega
theorem Fit.opened {d : D} (hok : d.Ok) (h : openE d = 0) : Fit ⟨d, openH d, openU d⟩ (scan (openU d)) := by
  have hs := open_sane hok h
  refine ⟨hs, ?_, errAll_ok.2 (scan_oks _)⟩
  have h4 := hs.n4
  have hu := hs.used
  unfold openE at h
  rw [if_neg (by show ¬ d.n < 4; exact Nat.not_lt.2 h4)] at h
  have h5 : size (scan (openU d)) = (openH d).used := by
    by_cases h6 : size (scan (openU d)) = (openH d).used
    · exact h6
    · rw [if_neg h6] at h; cases h
  have h7 := scan_take (openU d)
  rw [h5, ← hu] at h7
  rw [← h7]
  exact (List.take_length).symm
theorem Fit.disk {g : Lg} {rs : List (List UInt8)} (f : Fit g rs) {d : D} (h : d.n = g.d.n) : Fit ⟨d, g.h, g.u⟩ rs := ⟨f.sane.disk h, f.u, f.er⟩
theorem rfaults_end {w w1 : World} {F : Nat → Prop} {q : Nat} {d : D} (h : RDisk w F q d) (e1 : Ext w w1) {v' : Value} {l : List Bool} (ho : Own bv 4 w1 w.heap.size v' l) : Chg F w (w1.setCell ⟨q, 2, none⟩ v') ∧ RDisk (w1.setCell ⟨q, 2, none⟩ v') (grow F w) q (faults l d) := by
  obtain ⟨gk, vs, vp, h, ok⟩ := h
  have hq := (Array.getElem?_eq_some_iff.1 h.hd).1
  obtain ⟨cur, k1, -⟩ := h.kept
  have hgk := (Array.getElem?_eq_some_iff.1 k1).1
  have h1 := (h.ext e1).mono (G := grow F w) fun _ => Or.inl
  have c := (Chg.refl (fun k => k = q) w1).setq 2 v'
  refine ⟨(Chg.of_ext (p := F) e1).trans (c.mono fun k hk => by rw [hk]; exact h.fq), gk, vs, v', ?_, faults_ok l ok⟩
  exact h1.own c rfl (rhd_set2 _ h1.hd) (.inl ⟨rfl, rfl⟩) (.inr ((OwnO.of_own ho).mono fun k hk => ⟨.inr hk, by omega, by omega⟩)) h1.lf
/-- one thing: what it answers, and leaves -/
def doL (x : Wop) (g : Lg) : Int × Lg :=
  if x.what = 1 ∨ x.what = 2 then opL (opOf x) g else if x.what = 4 then (0, ⟨faults x.ps g.d, g.h, g.u⟩) else if x.what = 5 then (0, ⟨stop x.n g.d, g.h, g.u⟩) else if x.what = 6 then (0, ⟨crash x.bs g.d, g.h, g.u⟩) else (0, g)
def doR (x : Wop) (e : Int) (rs : List (List UInt8)) : List (List UInt8) := if x.what = 1 ∨ x.what = 2 then (if e = 0 then nextR (opOf x) rs else rs) else rs
theorem crash_nn (cuts : List UInt8) (d : D) (hok : d.Ok) : (crash cuts d).n = d.n := by
  have h3 : (crash cuts d).kept.length = d.kept.length := (lay_length hok.len hok.at_ (cutAt cuts) (cutAt_le cuts) _ (Nat.le_refl _)).trans hok.len.symm
  show (crash cuts d).kept.length / 32 = d.kept.length / 32
  rw [h3]
theorem do_fit (x : Wop) {g : Lg} {rs : List (List UInt8)} (f : Fit g rs) (hok : g.d.Ok) : Fit (doL x g).2 (doR x (doL x g).1 rs) ∧ (doL x g).2.d.st.length ≤ g.d.st.length + 300 := by
  unfold doL doR
  by_cases h1 : x.what = 1 ∨ x.what = 2
  · rw [if_pos h1, if_pos h1]
    exact ⟨op_fit _ f hok, op_len _ f.sane⟩
  · rw [if_neg h1, if_neg h1]
    by_cases h4 : x.what = 4
    · rw [if_pos h4]; exact ⟨f.disk rfl, Nat.le_add_right _ _⟩
    rw [if_neg h4]
    by_cases h5 : x.what = 5
    · rw [if_pos h5]; exact ⟨f.disk rfl, Nat.le_add_right _ _⟩
    rw [if_neg h5]
    by_cases h6 : x.what = 6
    · rw [if_pos h6]; exact ⟨f.disk (crash_nn _ _ hok), Nat.zero_le _⟩
    · rw [if_neg h6]; exact ⟨f, Nat.le_add_right _ _⟩
/-- which case -/
theorem doL_cases (x : Wop) (g : Lg) (rs : List (List UInt8)) : (x.what = 1 ∧ doL x g = opL (.app x.bs) g ∧ doR x (doL x g).1 rs = if (opL (.app x.bs) g).1 = 0 then rs ++ [x.bs] else rs) ∨ (x.what = 2 ∧ doL x g = opL (.rep x.ls) g ∧ doR x (doL x g).1 rs = if (opL (.rep x.ls) g).1 = 0 then x.ls else rs) ∨
    (x.what = 4 ∧ doL x g = (0, ⟨faults x.ps g.d, g.h, g.u⟩) ∧ doR x (doL x g).1 rs = rs) ∨ (x.what = 5 ∧ doL x g = (0, ⟨stop x.n g.d, g.h, g.u⟩) ∧ doR x (doL x g).1 rs = rs) ∨ (x.what = 6 ∧ doL x g = (0, ⟨crash x.bs g.d, g.h, g.u⟩) ∧ doR x (doL x g).1 rs = rs) ∨
    ((x.what == 1) = false ∧ (x.what == 2) = false ∧ (x.what == 4) = false ∧ (x.what == 5) = false ∧ (x.what == 6) = false ∧ doL x g = (0, g) ∧ doR x (doL x g).1 rs = rs) := by
  unfold doL doR opOf
  by_cases q1 : x.what = 1
  · left; simp [q1, nextR]
  by_cases q2 : x.what = 2
  · right; left; simp [q2, nextR]
  by_cases q4 : x.what = 4
  · right; right; left; simp [q4]
  by_cases q5 : x.what = 5
  · right; right; right; left; simp [q5]
  by_cases q6 : x.what = 6
  · right; right; right; right; left; simp [q6]
  · right; right; right; right; right; simp [q1, q2, q4, q5, q6]
attribute [local irreducible] opL wrB wrE sync syncE drop crash faults stop doL doR
set_option maxRecDepth 20000 in
set_option maxHeartbeats 2000000 in
theorem ldo2_any {w : World} {F : Nat → Prop} {q p : Nat} {g : Lg} (x : Wop) (l : LogM w F q p g) (s : Sane g) (hst : g.d.st.length ≤ 100000) (hw : Halves w) (hh : ¬ F 0) {vb vl vp : Value} (hb : ∀ w', Chg F w w' → Bytes w' vb x.bs) (hv : LL w vl x.ls) (hn : x.ls.length ≤ 30000000000) (hp : Sl bv w vp x.ps) (hpl : x.ps.length ≤ 1048576) (r1 : -9223372036854775808 ≤ x.n) (r2 : x.n ≤ 9223372036854775807) :
    Calls Tryd.prog 35 #[.pointer (some ⟨p, 0, none⟩), .pointer (some ⟨q, 0, none⟩), .agg #[.int .i64 x.what, .int .i64 x.n, vb, vl, vp]] w fun e w' => e = .returned (.int .i64 (doL x g).1) ∧ Chg F w w' ∧ LogM w' (grow F w) q p (doL x g).2 := by
  have hc := doL_cases x g []
  have h12 : x.what = 1 ∨ x.what = 2 → doL x g = opL (opOf x) g := fun h => by unfold doL; rw [if_pos h]
  by_cases hx : x.what = 1 ∨ x.what = 2
  · rw [h12 hx]
    exact ldo_any _ x hx l s hst hw hh (hb _ (Chg.refl _ _)) hv hn hp
  have eA := (Ext.refl w).alloc (.cells #[.int .i64 x.what, .int .i64 x.n, vb, vl, vp] 61)
  have cA : Chg F w (w.alloc (.cells #[.int .i64 x.what, .int .i64 x.n, vb, vl, vp] 61)) := Chg.of_ext eA
  have hT := lstop_m (l.ext eA) x.n r1 r2
  have hF := lfaults_m (l.ext eA) vp x.ps hpl (hp.ext eA)
  have hC := lcrash_m (l.ext eA) vb x.bs (fun w' c => hb w' (cA.trans c))
  have hg := Lib.hid (grow_ext (F := F) eA)
  have hCh := Lib.hid cA
  have hl0 := Lib.hid ((l.ext eA).mono fun k hk => (Or.inl hk : grow F w k))
  clear hv l s hst hw hh hn eA cA hb hp h12
  have hc2 : (x.what = 4 ∧ doL x g = (0, ⟨faults x.ps g.d, g.h, g.u⟩)) ∨ (x.what = 5 ∧ doL x g = (0, ⟨stop x.n g.d, g.h, g.u⟩)) ∨ (x.what = 6 ∧ doL x g = (0, ⟨crash x.bs g.d, g.h, g.u⟩)) ∨
      ((x.what == 1) = false ∧ (x.what == 2) = false ∧ (x.what == 4) = false ∧ (x.what == 5) = false ∧ (x.what == 6) = false ∧ doL x g = (0, g)) := by
    rcases hc with ⟨h, -⟩ | ⟨h, -⟩ | ⟨h, e, -⟩ | ⟨h, e, -⟩ | ⟨h, e, -⟩ | ⟨h1, h2, h4, h5, h6, e, -⟩
    · exact absurd (.inl h) hx
    · exact absurd (.inr h) hx
    · exact .inl ⟨h, e⟩
    · exact .inr (.inl ⟨h, e⟩)
    · exact .inr (.inr (.inl ⟨h, e⟩))
    · exact .inr (.inr (.inr ⟨h1, h2, h4, h5, h6, e⟩))
  clear hc hx
  generalize doL x g = R at *
  obtain ⟨X, N, B, L, P⟩ := x
  dsimp only at *
  rcases hc2 with ⟨rfl, e⟩ | ⟨rfl, e⟩ | ⟨rfl, e⟩ | ⟨p1, p2, p4, p5, p6, e⟩
  all_goals
    have eh := Lib.hid e
    clear e
  · go_enter Tryd.func35, Tryd.ntmps35
    go_wp2_with (go_at_call 38; refine hF.mono ?_; rintro e w1 ⟨rfl, h1, h2⟩)
    go_ret
    exact ⟨by rw [eh.out]; rfl, hCh.out.trans h1, by rw [eh.out]; exact h2.mono hg.out⟩
  · go_enter Tryd.func35, Tryd.ntmps35
    go_wp2_with (go_at_call 34; refine hT.mono ?_; rintro e w1 ⟨rfl, h1, h2⟩)
    go_ret
    exact ⟨by rw [eh.out]; rfl, hCh.out.trans h1, by rw [eh.out]; exact h2.mono hg.out⟩
  · go_enter Tryd.func35, Tryd.ntmps35
    go_wp2_with (go_at_call 36; refine hC.mono ?_; rintro e w1 ⟨rfl, h1, h2⟩)
    go_ret
    exact ⟨by rw [eh.out]; rfl, hCh.out.trans h1, by rw [eh.out]; exact h2.mono hg.out⟩
  · go_enter Tryd.func35, Tryd.ntmps35
    go_wp2
    go_ret
    exact ⟨by rw [eh.out]; rfl, hCh.out, by rw [eh.out]; exact hl0.out⟩
/-- both logs, and what each may have -/
structure PrL (w0 w : World) (F1 F2 : Nat → Prop) (q1 p1 q2 p2 : Nat) (g g' : Lg) (rs : List (List UInt8)) : Prop where
  e : Ext w0 w
  a : LogM w F1 q1 p1 g
  b : RLogM w F1 F2 q2 p2 g' rs
  a1 : ∀ k, F1 k → w0.heap.size ≤ k ∧ k < w.heap.size
  b1 : ∀ k, F2 k → w0.heap.size ≤ k ∧ k < w.heap.size
  ab : ∀ k, F1 k → ¬ F2 k
section
variable {w0 w w' : World} {F1 F2 : Nat → Prop} {q1 p1 q2 p2 : Nat} {g g' : Lg} {rs : List (List UInt8)}
theorem PrL.ext (h : PrL w0 w F1 F2 q1 p1 q2 p2 g g' rs) (e : Ext w w') : PrL w0 w' F1 F2 q1 p1 q2 p2 g g' rs :=
  ⟨h.e.trans e, h.a.ext e, h.b.ext' e, fun k hk => ⟨(h.a1 k hk).1, Nat.lt_of_lt_of_le (h.a1 k hk).2 e.size⟩, fun k hk => ⟨(h.b1 k hk).1, Nat.lt_of_lt_of_le (h.b1 k hk).2 e.size⟩, h.ab⟩
theorem PrL.one {q1' : Nat} {g2 : Lg} (h : PrL w0 w F1 F2 q1 p1 q2 p2 g g' rs) (c : Chg F1 w w') (l : LogM w' (grow F1 w) q1' p1 g2) : PrL w0 w' (fun k => grow F1 w k ∧ k < w'.heap.size) F2 q1' p1 q2 p2 g2 g' rs :=
  ⟨h.e.chg c fun k hk => (h.a1 k hk).1, l.bound, h.b.other c (fun k h2 h1 => h.ab k h1 h2) (fun k hk h1 => h1.1.elim id fun h2 => by omega), fun k hk => ⟨hk.1.elim (fun h1 => (h.a1 k h1).1) (fun h1 => Nat.le_trans h.e.size h1), hk.2⟩,
    fun k hk => ⟨(h.b1 k hk).1, Nat.lt_of_lt_of_le (h.b1 k hk).2 c.size⟩, fun k hk h2 => hk.1.elim (fun h1 => h.ab k h1 h2) (fun h1 => by have := (h.b1 k h2).2; omega)⟩
theorem PrL.two {q2' : Nat} {g2 : Lg} {rs2 : List (List UInt8)} (h : PrL w0 w F1 F2 q1 p1 q2 p2 g g' rs) (c : Chg F2 w w') (l : RLogM w' F1 (grow F2 w) q2' p2 g2 rs2) : PrL w0 w' F1 (fun k => grow F2 w k ∧ k < w'.heap.size) q1 p1 q2' p2 g g2 rs2 :=
  ⟨h.e.chg c fun k hk => (h.b1 k hk).1, h.a.chg c fun k _ h1 h2 => h.ab k h1 h2, l.bound, fun k hk => ⟨(h.a1 k hk).1, Nat.lt_of_lt_of_le (h.a1 k hk).2 c.size⟩,
    fun k hk => ⟨hk.1.elim (fun h1 => (h.b1 k h1).1) (fun h1 => Nat.le_trans h.e.size h1), hk.2⟩, fun k hk h2 => h2.1.elim (fun h1 => h.ab k hk h1) (fun h1 => by have := (h.a1 k hk).2; omega)⟩
end
/-- the document's log, opened anew -/
theorem RLogM.opened {w w' : World} {A F : Nat → Prop} {q p q2 : Nat} {g : Lg} {rs : List (List UInt8)} (m : RLogM w A F q p g rs) (hA : ∀ k, A k → k < w.heap.size) (e : Ext w w') (hq : w.heap.size ≤ q2) {vl : Value} (rl : RLogAt w' q2 p (openH g.d) vl) (ol : OwnLL w' (q2 + 1) (fun k => q2 + 1 ≤ k) vl (scan (openU g.d))) :
    RLogM w' A (grow F w) q2 p ⟨g.d, openH g.d, openU g.d⟩ (scan (openU g.d)) := by
  obtain ⟨G, vl0, hD, hGF, hGs, -⟩ := m
  refine ⟨G, vl, hD.ext e, fun k hk => .inl (hGF k hk), fun k hk => Nat.lt_of_lt_of_le (hGs k hk) e.size, .inr hq, fun h => by have := hGs q2 h; omega, rl, fun W c => ?_⟩
  have hL : LLP w' vl (scan (openU g.d)) fun k => ¬ G k ∧ k ≠ q2 ∧ ¬ A k ∧ k < w'.heap.size := ol.llp.mono fun k h1 h2 => ⟨fun h => by have := hGs k h; omega, by omega, fun h => by have := hA k h; omega, h1⟩
  refine hL.chg c (fun k hk h => ?_) fun k hk h => h.elim hk.1 fun h => h.elim hk.2.1 hk.2.2.1
  have hb := ol.own_lt k hk
  exact h.elim (fun h => by have := hGs k h; omega) fun h => h.elim (fun h => by omega) fun h => by have := hA k h; omega
/-- what is asked of the document's log, at a world -/
theorem RLogM.read {w : World} {A F : Nat → Prop} {q p : Nat} {g : Lg} {rs : List (List UInt8)} (m : RLogM w A F q p g rs) : ∃ vl, RLogAt w q p g.h vl ∧ RV w p g.d ∧ RShow w p g.d ∧ LL w vl rs := by
  obtain ⟨G, vl, hD, hGF, hGs, hq, hnq, hl, hr⟩ := m
  obtain ⟨gk, vs, vp, h, ok⟩ := hD
  obtain ⟨c0, c1, c2, c3, -, ff⟩ := rhd_cells h.hd
  obtain ⟨a, cap, e, -⟩ := h.st
  obtain ⟨cur, k1, k2⟩ := h.kept
  have h1 := ok.len
  have h2 := ok.most
  refine ⟨vl, hl, RV.of ⟨gk, vs, vp, h, ok⟩, ⟨some ⟨gk, 0, none⟩, g.d.kept.length, a, cap, c0, bytes_of_row (E := 5) (fr := (0, 0)) ?_ rfl (by unfold maxLen; omega), by rw [c1, e]⟩, (hr w (Chg.refl _ _)).ll⟩
  rw [k1, ← k2, Array.toArray_toList]
theorem RLogM.ok {w : World} {A F : Nat → Prop} {q p : Nat} {g : Lg} {rs : List (List UInt8)} (m : RLogM w A F q p g rs) : g.d.Ok := by
  obtain ⟨G, vl, ⟨gk, vs, vp, h, ok⟩, -⟩ := m
  exact ok
/-- the disk's plan, in memory -/
theorem RDisk.plan2 {w : World} {F : Nat → Prop} {q : Nat} {d : D} (h : RDisk w F q d) : ∃ vp, w.cell? ⟨q, 2, none⟩ = some vp ∧ w.frozen? ⟨q, 2, none⟩ = false := by
  obtain ⟨gk, vs, vp, h, ok⟩ := h
  obtain ⟨c0, c1, c2, c3, -, ff⟩ := rhd_cells h.hd
  exact ⟨vp, c2, ff 2⟩
end Go.Proofs.YtmpjcnopakfdmaaDoor
