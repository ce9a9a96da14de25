/- The log in memory, with all it has: what stays of it, what a call of its disk leaves. -/
import Derived.Test.YtkdmljijgfejpaaDoorWlF
namespace Go.Proofs.YtkdmljijgfejpaaDoor
set_option linter.unusedVariables false
set_option linter.unusedSimpArgs false
open Go.RowKit Dk Wl Fr

/-- a log in memory: its own block, its disk's blocks, its bytes': all of F -/
def LogM (w : World) (F : Nat → Prop) (q p : Nat) (g : Lg) : Prop :=
  ∃ (G : Nat → Prop) (vu : Value), Disk w G p g.d ∧ (∀ k, G k → F k) ∧ (∀ k, G k → k < w.heap.size) ∧ F q ∧ ¬ G q ∧ LogAt w q p g.h vu ∧ Bytes w vu g.u ∧ ∀ k, vblk vu = some k → g.u ≠ [] → F k ∧ ¬ G k ∧ k ≠ q
theorem LogM.mono {w : World} {F F' : Nat → Prop} {q p : Nat} {g : Lg} (h : LogM w F q p g) (hF : ∀ k, F k → F' k) : LogM w F' q p g := by
  obtain ⟨G, vu, h1, h2, h3, h4, h5, h6, h7, h8⟩ := h
  exact ⟨G, vu, h1, fun k hk => hF k (h2 k hk), h3, hF q h4, h5, h6, h7, fun k hk hl => ⟨hF k (h8 k hk hl).1, (h8 k hk hl).2⟩⟩
theorem LogM.chg {w w' : World} {F F' : Nat → Prop} {q p : Nat} {g : Lg} (h : LogM w F q p g) (c : Chg F' w w') (hF : ∀ k, k < w.heap.size → F k → ¬ F' k) : LogM w' F q p g := by
  obtain ⟨G, vu, h1, h2, h3, h4, h5, h6, h7, h8⟩ := h
  exact ⟨G, vu, (h1.bound.chg c fun k hk => hF k hk.2 (h2 k hk.1)).mono fun k hk => hk.1, h2, fun k hk => Nat.lt_of_lt_of_le (h3 k hk) c.size, h4, h5, h6.chg c (hF q h6.lt h4), h7.chgV c fun k hk hl => hF k (h7.blk_lt hl k hk) (h8 k hk hl).1, h8⟩
theorem LogM.ext {w w' : World} {F : Nat → Prop} {q p : Nat} {g : Lg} (h : LogM w F q p g) (e : Ext w w') : LogM w' F q p g := h.chg (F' := fun _ => False) (Chg.of_ext e) fun _ _ _ => id
theorem LogM.bound {w : World} {F : Nat → Prop} {q p : Nat} {g : Lg} (h : LogM w F q p g) : LogM w (fun k => F k ∧ k < w.heap.size) q p g := by
  obtain ⟨G, vu, h1, h2, h3, h4, h5, h6, h7, h8⟩ := h
  exact ⟨G, vu, h1, fun k hk => ⟨h2 k hk, h3 k hk⟩, h3, ⟨h4, h6.lt⟩, h5, h6, h7, fun k hk hl => ⟨⟨(h8 k hk hl).1, h7.blk_lt hl k hk⟩, (h8 k hk hl).2⟩⟩
theorem LogM.ok {w : World} {F : Nat → Prop} {q p : Nat} {g : Lg} (h : LogM w F q p g) : g.d.Ok := by
  obtain ⟨G, vu, ⟨gk, s, v, z, _, _, _, _, _, _, ok⟩, _⟩ := h
  exact ok
/-- its disk, and what the log is behind a call of that -/
theorem LogM.disk {w : World} {F : Nat → Prop} {q p : Nat} {g : Lg} (h : LogM w F q p g) : ∃ G, Disk w G p g.d ∧ (∀ k, G k → F k) ∧ (∀ k, G k → k < w.heap.size) ∧ ∀ w' d', Chg G w w' → Disk w' (grow G w) p d' → LogM w' (grow F w) q p ⟨d', g.h, g.u⟩ := by
  obtain ⟨G, vu, h1, h2, h3, h4, h5, h6, h7, h8⟩ := h
  refine ⟨G, h1, h2, h3, fun w' d' c hd => ⟨fun k => grow G w k ∧ k < w'.heap.size, vu, hd.bound, fun k hk => hk.1.imp (h2 k) id, fun k hk => hk.2, .inl h4, fun hk => ?_, h6.chg c h5, h7.chgV c fun k hk hl => (h8 k hk hl).2.1, fun k hk hl => ⟨.inl (h8 k hk hl).1, fun hg => ?_, (h8 k hk hl).2.2⟩⟩⟩
  · have := h6.lt
    exact hk.1.elim h5 fun h => by omega
  · have := h7.blk_lt hl k hk
    exact hg.1.elim (h8 k hk hl).2.1 fun h => by omega
/-- a log that can be -/
structure Sane (g : Lg) : Prop where
  n4 : 4 ≤ g.d.n
  n512 : g.d.n ≤ 512
  fine : g.h.Fine
  used : g.u.length = g.h.used
  room : g.h.used ≤ 32 * areaN g.d.n
theorem Wl.Lw.sane {c : Nat} {g : Lg} {rs : List (List UInt8)} (l : Lw c g rs) : Sane g := ⟨l.on.n4, l.on.n512, l.on.fine, l.on.used, l.on.room⟩
theorem Sane.disk {g : Lg} (s : Sane g) {d : D} (h : d.n = g.d.n) : Sane ⟨d, g.h, g.u⟩ := ⟨by show 4 ≤ d.n; rw [h]; exact s.n4, by show d.n ≤ 512; rw [h]; exact s.n512, s.fine, s.used, by show _ ≤ 32 * areaN d.n; rw [h]; exact s.room⟩
theorem put_sane {g : Lg} (s : Sane g) (hok : g.d.Ok) {h' : H} {u' : List UInt8} {i0 : Nat} (hf : h'.Fine) (hu : u'.length = h'.used) (hr : h'.used ≤ 32 * areaN g.d.n) : Sane (putL h' u' i0 g).2 ∧ (putL h' u' i0 g).2.d.n = g.d.n := by
  have hn := run_n (calls (areaN g.d.n) h' u' i0) hok
  have e : putL h' u' i0 g = if (run (calls (areaN g.d.n) h' u' i0) g.d).1 then (0, ⟨(run (calls (areaN g.d.n) h' u' i0) g.d).2, h', u'⟩) else (21, ⟨(run (calls (areaN g.d.n) h' u' i0) g.d).2, g.h, g.u⟩) := rfl
  generalize run (calls (areaN g.d.n) h' u' i0) g.d = R at *
  obtain ⟨b, d'⟩ := R
  simp only at hn
  rw [e]
  cases b
  · exact ⟨s.disk hn, hn⟩
  · exact ⟨⟨by show 4 ≤ d'.n; rw [hn]; exact s.n4, by show d'.n ≤ 512; rw [hn]; exact s.n512, hf, hu, by show _ ≤ 32 * areaN d'.n; rw [hn]; exact hr⟩, hn⟩
theorem op_sane (o : Lo) {g : Lg} (s : Sane g) (hok : g.d.Ok) : Sane (opL o g).2 ∧ (opL o g).2.d.n = g.d.n := by
  have hm : areaN g.d.n ≤ 255 := by have := s.n512; unfold areaN; omega
  have hr := s.room
  have hf := s.fine
  cases o with
  | app b =>
    rcases planL_app b g.d.n g.h g.u with ⟨_, q⟩ | ⟨_, _, q⟩ | ⟨h1, h2, q⟩
    · unfold opL; rw [q]; exact ⟨s, rfl⟩
    · unfold opL; rw [q]; exact ⟨s, rfl⟩
    · unfold opL; rw [q]
      refine put_sane s hok ⟨by show g.h.gen + 1 < _; omega, hf.area, by show g.h.used + (6 + b.length) < _; omega⟩ ?_ (by show g.h.used + (6 + b.length) ≤ _; omega)
      rw [List.length_append, frm_length, s.used]
  | rep ls =>
    rcases planL_rep ls g.d.n g.h g.u with ⟨_, q⟩ | ⟨_, _, q⟩ | ⟨h1, h2, q⟩
    · unfold opL; rw [q]; exact ⟨s, rfl⟩
    · unfold opL; rw [q]; exact ⟨s, rfl⟩
    · unfold opL; rw [q]
      exact put_sane s hok ⟨by show g.h.gen + 1 < _; omega, by show 1 - g.h.area < _; omega, by show size ls < _; omega⟩ (all_length ls) (by show size ls ≤ _; omega)
/-- how much is staged behind calls -/
theorem run_len : ∀ (cs : List C) (d : D), (run cs d).2.st.length ≤ d.st.length + cs.length
  | [], _ => by simp [run]
  | c :: cs, d => by
    have h := cD_len c d
    show (if cE c d = 0 then run cs (cD c d) else (false, drop (cD c d)) : Bool × D).2.st.length ≤ _
    rw [List.length_cons]
    split
    · have := run_len cs (cD c d); omega
    · show (drop (cD c d)).st.length ≤ _
      unfold drop
      split
      · omega
      · simp
theorem op_len (o : Lo) {g : Lg} (s : Sane g) : (opL o g).2.d.st.length ≤ g.d.st.length + 300 := by
  have hm : areaN g.d.n ≤ 255 := by have := s.n512; unfold areaN; omega
  have hr := s.room
  have hu := s.used
  have key : ∀ h' u' i0, u'.length ≤ 32 * areaN g.d.n → (putL h' u' i0 g).2.d.st.length ≤ g.d.st.length + 300 := fun h' u' i0 hl => by
    have h1 := run_len (calls (areaN g.d.n) h' u' i0) g.d
    rw [calls_length] at h1
    have h2 : nb u' ≤ 255 := by unfold nb; omega
    have e : (putL h' u' i0 g).2.d = (run (calls (areaN g.d.n) h' u' i0) g.d).2 := by unfold putL; split <;> rfl
    rw [e]; omega
  cases o with
  | app b =>
    rcases planL_app b g.d.n g.h g.u with ⟨_, q⟩ | ⟨_, _, q⟩ | ⟨h1, h2, q⟩
    · unfold opL; rw [q]; exact Nat.le_add_right _ _
    · unfold opL; rw [q]; exact Nat.le_add_right _ _
    · unfold opL; rw [q]
      exact key _ _ _ (by rw [List.length_append, frm_length]; omega)
  | rep ls =>
    rcases planL_rep ls g.d.n g.h g.u with ⟨_, q⟩ | ⟨_, _, q⟩ | ⟨h1, h2, q⟩
    · unfold opL; rw [q]; exact Nat.le_add_right _ _
    · unfold opL; rw [q]; exact Nat.le_add_right _ _
    · unfold opL; rw [q]
      exact key _ _ _ (by rw [all_length]; omega)
end Go.Proofs.YtkdmljijgfejpaaDoor
