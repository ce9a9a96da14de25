/- A log in memory: what it tells; it is opened; the chapter's example; a log behind things that were done. -/
import Derived.Test.YtmpjcnopakfdmaaDoorWlL
import Derived.Test.YtmpjcnopakfdmaaDoorFrI
namespace Go.Proofs.YtmpjcnopakfdmaaDoor
set_option linter.unusedVariables false
set_option linter.unusedSimpArgs false
open Go.RowKit Dk Wl Fr

theorem lused_m {w : World} {F : Nat → Prop} {q p : Nat} {g : Lg} (l : LogM w F q p g) :
    Calls Tryd.prog 41 #[.pointer (some ⟨q, 0, none⟩)] w fun e w' => e = .returned (.int .i64 (g.h.used : Int)) ∧ w = w' := by
  obtain ⟨G, vu, h1, h2, h3, h4, h5, h6, h7, h8⟩ := l
  exact lused_any h6
theorem lgen_m {w : World} {F : Nat → Prop} {q p : Nat} {g : Lg} (l : LogM w F q p g) :
    Calls Tryd.prog 42 #[.pointer (some ⟨q, 0, none⟩)] w fun e w' => e = .returned (.int .i64 (g.h.gen : Int)) ∧ w = w' := by
  obtain ⟨G, vu, h1, h2, h3, h4, h5, h6, h7, h8⟩ := l
  exact lgen_any h6
theorem lroom_m {w : World} {F : Nat → Prop} {q p : Nat} {g : Lg} (l : LogM w F q p g) (s : Sane g) :
    Calls Tryd.prog 51 #[.pointer (some ⟨q, 0, none⟩)] w fun e w' => e = .returned (.int .i64 ((32 * areaN g.d.n - g.h.used : Nat) : Int)) ∧ Ext w w' := by
  obtain ⟨G, vu, h1, h2, h3, h4, h5, h6, h7, h8⟩ := l
  exact lRoom_any h6 h1 s.n4 s.n512 s.room
theorem sane_len {g : Lg} (s : Sane g) : g.u.length ≤ 9000 := by
  have h1 := s.n512
  have h2 := s.room
  have h3 := s.used
  unfold areaN at h2
  omega
theorem lrecords_m {w : World} {F : Nat → Prop} {q p : Nat} {g : Lg} (l : LogM w F q p g) (s : Sane g) (hw : Halves w) :
    Calls Tryd.prog 33 #[.pointer (some ⟨q, 0, none⟩)] w (Ret fun v w' => OwnLL w' w.heap.size (fun k => w.heap.size ≤ k) v (scan g.u) ∧ Ext w w') := by
  obtain ⟨G, vu, h1, h2, h3, h4, h5, h6, h7, h8⟩ := l
  exact lrecords_any h6 h7 (by have := sane_len s; omega) hw
theorem areaB_len {d : D} (hok : d.Ok) (h4 : 4 ≤ d.n) {a : Nat} (ha : a < 2) : (areaB d a).length = 32 * areaN d.n := by
  unfold areaB
  have hm := areaN_le d.n h4
  exact flat_length _ _ (fun i hi => rdB_len hok (by rcases area_case ha (areaN d.n) with ⟨_, e⟩ | ⟨_, e⟩ <;> omega))
theorem open_sane {d : D} (hok : d.Ok) (h : openE d = 0) : Sane ⟨d, openH d, openU d⟩ := by
  have h4 : 4 ≤ d.n := by
    rcases Nat.lt_or_ge d.n 4 with hh | hh
    · unfold openE at h; rw [if_pos hh] at h; cases h
    · exact hh
  obtain ⟨f1, f2⟩ := pickH_fine (32 * areaN d.n) (rdB 0 d) (rdB 1 d)
  refine ⟨h4, hok.most, f1, ?_, f2⟩
  show (openU d).length = (openH d).used
  have f2' : (openH d).used ≤ 32 * areaN d.n := f2
  unfold openU
  rw [List.length_take, areaB_len hok h4 (show (openH d).area < 2 from f1.area)]
  omega
theorem lopen_m {w : World} {F G : Nat → Prop} {p : Nat} {d : D} (hD : Disk w G p d) (hGF : ∀ k, G k → F k) (hw : Halves w) :
    Calls Tryd.prog 27 #[.pointer (some ⟨p, 0, none⟩)] w (Ret fun r w' => Ext w w' ∧ ((openE d ≠ 0 ∧ r = .tuple #[.pointer none, .int .i64 (openE d)]) ∨
      (openE d = 0 ∧ ∃ q, r = .tuple #[.pointer (some ⟨q, 0, none⟩), .int .i64 0] ∧ w.heap.size ≤ q ∧ LogM w' (grow F w) q p ⟨d, openH d, openU d⟩))) := by
  have hok : d.Ok := by
    obtain ⟨gk, s, v, z, _, _, _, _, _, _, ok⟩ := hD
    exact ok
  refine (lopen_any hD.bound hok hw (fun k hk => hk.2)).mono fun e w' ⟨r, h1, h2, h3⟩ => ⟨r, h1, h2, ?_⟩
  rcases h3 with h | ⟨h3, q, h4, h5, vu, h6, h7, h8⟩
  · exact .inl h
  · refine .inr ⟨h3, q, h4, h5, _, vu, hD.bound.ext h2, fun k hk => .inl (hGF k hk.1), fun k hk => Nat.lt_of_lt_of_le hk.2 h2.size, .inr h5, fun hk => by have := hk.2; omega, h6, h7, fun k hk hl => ⟨.inr (h8 k hk hl).1, fun hg => by have := hg.2; have := (h8 k hk hl).1; omega, (h8 k hk hl).2⟩⟩
theorem new_open {n : Nat} (h4 : 4 ≤ n) (h512 : n ≤ 512) : openE (mk n) = 0 ∧ openH (mk n) = H.zero ∧ openU (mk n) = [] := by
  obtain ⟨h1, h2, h3, -⟩ := (new_log h4 h512 0).found
  exact ⟨h3, h1, h2⟩
theorem awake_log : ∃ d', opL (.app [1]) ⟨mk 6, H.zero, []⟩ = (0, ⟨d', ⟨1, 0, 7⟩, frm [1]⟩) ∧ d'.n = 6 ∧ Sane ⟨d', ⟨1, 0, 7⟩, frm [1]⟩ ∧ scan (frm [1]) = [[1]] := by
  have hl := new_log (n := 6) (by decide) (by decide) 0
  have hm6 : (mk 6).n = 6 := mk_n 6
  rcases planL_app [1] (mk 6).n H.zero [] with ⟨h1, _⟩ | ⟨_, h2, _⟩ | ⟨_, _, hq⟩
  · exact absurd rfl h1
  · exfalso
    rw [hm6] at h2
    revert h2
    decide
  · rcases op_calm (.app [1]) hl with ⟨e, h1, _⟩ | ⟨d', h', u', i0, h1, h2, h3, h4⟩
    · rw [hq] at h1; cases h1
    · rw [hq] at h1
      simp only [Sum.inr.injEq, Prod.mk.injEq] at h1
      obtain ⟨rfl, rfl, rfl⟩ := h1
      have hs : scan (frm [1]) = [[1]] := by
        have := scan_frm (l := [1]) (by decide) []
        rwa [List.append_nil] at this
      exact ⟨d', h2, h4.trans hm6, h3.sane, hs⟩
end Go.Proofs.YtmpjcnopakfdmaaDoor
