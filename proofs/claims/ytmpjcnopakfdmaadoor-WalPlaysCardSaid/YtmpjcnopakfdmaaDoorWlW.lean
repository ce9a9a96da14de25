/- A document's disk that is just opened: it is asked only. Are both logs one. -/
import Derived.Test.YtmpjcnopakfdmaaDoorWlV
import Derived.Test.YtmpjcnopakfdmaaDoorGDo
namespace Go.Proofs.YtmpjcnopakfdmaaDoor
set_option linter.unusedVariables false
set_option linter.unusedSimpArgs false
open Go.RowKit Dk Wl Fr

/-- a document's disk: what is kept, how much is staged -/
structure ROpen (w : World) (q : Nat) (d : D) : Prop where
  ok : d.Ok
  st : d.st = []
  kept : ∃ a c, w.cell? ⟨q, 0, none⟩ = some (.slice a d.kept.length c) ∧ Bytes w (.slice a d.kept.length c) d.kept
  nil : w.cell? ⟨q, 1, none⟩ = some (.slice none 0 0)
theorem ROpen.ext {w w' : World} {q : Nat} {d : D} (h : ROpen w q d) (e : Ext w w') : ROpen w' q d := by
  obtain ⟨a, c, h1, h2⟩ := h.kept
  exact ⟨h.ok, h.st, ⟨a, c, e.cell h1, h2.ext e⟩, e.cell h.nil⟩
theorem olen_any {w : World} {q : Nat} {d : D} (h : ROpen w q d) :
    Calls Tryd.prog 58 #[.pointer (some ⟨q, 0, none⟩)] w fun e w' => e = .returned (.int .i64 (d.n : Int)) ∧ w = w' := by
  obtain ⟨a, c, k0, hb⟩ := h.kept
  have hlen := h.ok.len
  have hmost := h.ok.most
  have g1 : IntKind.i64.wrap ((d.kept.length : Int) / 32) = (d.n : Int) := by
    rw [hlen, show ((32 * d.n : Nat) : Int) / 32 = (d.n : Int) by omega]; exact wrap_sm (by omega)
  clear h hb hlen hmost
  go_enter Tryd.func58, Tryd.ntmps58
  go_wp2
  go_ret
  exact ⟨rfl, rfl⟩
theorem blk_at {w : World} {g o n c : Nat} {l : List UInt8} (h : Bytes w (.slice (some ⟨g, o, none⟩) n c) l) (i : Nat) (hi : 32 * i + 32 ≤ l.length) : Bytes w (.slice (some ⟨g, o + 32 * i, none⟩) 32 (c - 32 * i)) (blk l i) := by
  have h1 := bytes_from h (32 * i) (by omega)
  have h2 := h1.init 32 (by rw [List.length_drop]; omega)
  exact h2
set_option maxRecDepth 20000 in
set_option maxHeartbeats 1000000 in
theorem oread_any {w : World} {q : Nat} {d : D} (h : ROpen w q d) (i : Int) :
    Calls Tryd.prog 59 #[.pointer (some ⟨q, 0, none⟩), .int .i64 i] w (Ret fun v w' => Bytes w v (rdB i d) ∧ w = w') := by
  have hLe := olen_any h
  have hlen := h.ok.len
  have hmost := h.ok.most
  obtain ⟨a, cap, c0, hb⟩ := h.kept
  have c1 := h.nil
  have hst := h.st
  clear h
  by_cases h0 : i < 0
  · have hr : RowKit.Hid (rdB i d = []) := Lib.hid (by
      have : has d i = false := by unfold has; rw [decide_eq_false (by omega)]; rfl
      unfold rdB; rw [this]; rfl)
    have d0 : decide (i < 0) = true := by rw [decide_eq_true_iff]; exact h0
    clear hb
    go_enter Tryd.func59, Tryd.ntmps59
    go_wp2
    go_ret
    exact Ret.mk ⟨by rw [hr.out]; exact Bytes.nil _, rfl⟩
  have d0 : decide (i < 0) = false := by rw [decide_eq_false_iff_not]; exact h0
  by_cases h1 : (d.n : Int) ≤ i
  · have hr : RowKit.Hid (rdB i d = []) := Lib.hid (by
      have : has d i = false := by unfold has; rw [decide_eq_false (p := i < (d.n : Int)) (by omega)]; simp
      unfold rdB; rw [this]; rfl)
    have d1 : decide ((d.n : Int) ≤ i) = true := by rw [decide_eq_true_iff]; exact h1
    clear hb
    go_enter Tryd.func59, Tryd.ntmps59
    go_wp2_with (go_at_call 58; refine hLe.mono ?_; rintro e w' ⟨rfl, rfl⟩)
    go_ret
    exact Ret.mk ⟨by rw [hr.out]; exact Bytes.nil _, rfl⟩
  · have d1 : decide ((d.n : Int) ≤ i) = false := by rw [decide_eq_false_iff_not]; exact h1
    obtain ⟨i, rfl⟩ : ∃ k : Nat, i = k := ⟨i.toNat, by omega⟩
    have hi : i < d.n := by omega
    have hr : RowKit.Hid (rdB (i : Int) d = blk d.kept i) := Lib.hid (by
      have : has d (i : Int) = true := by unfold has; simp; exact hi
      unfold rdB; rw [this, hst]; rfl)
    obtain ⟨g, o, rfl⟩ := hb.ad (by omega)
    have hcp := hb.cp.2.1
    have hB0 := Lib.hid (blk_at hb i (by omega))
    have t1 : IntKind.i64.wrap (32 * (i : Int)) = 32 * (i : Int) := by rw [IntKind.wrap_i64]; omega
    have t2 : IntKind.i64.wrap (32 * (i : Int) + 32) = 32 * (i : Int) + 32 := by rw [IntKind.wrap_i64]; omega
    have t3 : (0 : Int) ≤ 32 * (i : Int) := by omega
    have t4 : 32 * (i : Int) + 32 ≤ (cap : Int) := by omega
    have t5 : (32 * (i : Int)).toNat = 32 * i := by omega
    have t6 : (32 * (i : Int) + 32).toNat = 32 * i + 32 := by omega
    have t7 : 32 * i + 32 - 32 * i = 32 := by omega
    have t8 : ¬ cap = 32 * i := by omega
    clear hb hlen hmost hi hst
    go_enter Tryd.func59, Tryd.ntmps59
    go_wp2_with (go_at_call 58; refine hLe.mono ?_; rintro e w' ⟨rfl, rfl⟩)
    go_loopw [5, 6] (fun out j wr => out = .slice (some ⟨g, o + 32 * i, none⟩) 32 (cap - 32 * i) ∧ j = .int .i64 0 ∧ wr = w) (fun _ _ _ => 0)
    case atStart => exact ⟨rfl, rfl, rfl⟩
    case round =>
      obtain ⟨rfl, rfl, rfl⟩ := hrel
      go_wp2
      go_ret
      exact Ret.mk ⟨by rw [hr.out]; exact hB0.out, rfl⟩
theorem ROpen.rv {w : World} {q : Nat} {d : D} (h : ROpen w q d) : RV w q d := ⟨fun _ e => olen_any (h.ext e), fun _ i e => oread_any (h.ext e) i⟩
/-- what a document's disk shows: what is kept, how much is staged -/
def RShow (w : World) (q : Nat) (d : D) : Prop := ∃ a c a' c', w.cell? ⟨q, 0, none⟩ = some (.slice a d.kept.length c) ∧ Bytes w (.slice a d.kept.length c) d.kept ∧ w.cell? ⟨q, 1, none⟩ = some (.slice a' d.st.length c')
theorem ROpen.shows {w : World} {q : Nat} {d : D} (h : ROpen w q d) : RShow w q d := by
  obtain ⟨a, c, h1, h2⟩ := h.kept
  exact ⟨a, c, none, 0, h1, h2, by rw [h.st]; exact h.nil⟩
set_option maxRecDepth 20000 in
set_option maxHeartbeats 4000000 in
theorem lsame_any {w : World} {F : Nat → Prop} {q p : Nat} {g : Lg} (l : LogM w F q p g) (s : Sane g) (hw : Halves w) {q2 p2 : Nat} {vl : Value} (rl : RLogAt w q2 p2 g.h vl) (rv : RV w p2 g.d) (rs : RShow w p2 g.d) (hl : LL w vl (scan g.u)) :
    Calls Tryd.prog 29 #[.pointer (some ⟨p, 0, none⟩), .pointer (some ⟨q, 0, none⟩), .pointer (some ⟨q2, 0, none⟩)] w fun e w' => e = .returned (.bool true) ∧ Ext w w' := by
  obtain ⟨a, c, a', c', k0, hkb, k1⟩ := rs
  have hlh := Lib.hid l
  have hsh := Lib.hid s
  have hwh := Lib.hid hw
  have hrlh := Lib.hid rl
  have hrvh := Lib.hid rv
  have hkbh := Lib.hid hkb
  have hllh := Lib.hid hl
  have hk0 := Lib.hid k0
  have hk1 := Lib.hid k1
  obtain ⟨al, cl, hvl, -⟩ := hl.get
  have hvlh := Lib.hid hvl
  have hmh := Lib.hid (show areaN g.d.n ≤ 255 from by have := s.n512; unfold areaN; omega)
  have hrm := Lib.hid s.room
  obtain ⟨M, hM⟩ : ∃ M, M = 32 * areaN g.d.n := ⟨_, rfl⟩
  obtain ⟨Z, hZ⟩ : ∃ Z, Z = M - g.h.used := ⟨_, rfl⟩
  have g1 : IntKind.i64.wrap ((M : Int) - (g.h.used : Int)) = (Z : Int) := by rw [show (M : Int) - (g.h.used : Int) = (Z : Int) by have := hrm.out; omega]; exact wrap_sm (by have := hmh.out; omega)
  have hR := Lib.hid (fun W (e : Ext w W) => lroom_m (hlh.out.ext e) s)
  rw [← hM, ← hZ] at hR
  have hSz := Lib.hid (fun W (e : Ext w W) => rsize_any (hrvh.out.ext e) s.n4 s.n512)
  rw [← hM] at hSz
  have hU := Lib.hid (fun W (e : Ext w W) => lused_m (hlh.out.ext e))
  have hG := Lib.hid (fun W (e : Ext w W) => lgen_m (hlh.out.ext e))
  have hRc := Lib.hid (fun W (e : Ext w W) => lrecords_m (hlh.out.ext e) s (hwh.out.ext e))
  have hBy := Lib.hid (show ∀ W, Ext w W → Calls Tryd.prog 30 #[.pointer (some ⟨p, 0, none⟩)] W (Ret fun v w' => Bytes w' v g.d.kept ∧ Ext W w') from fun W e => by
    obtain ⟨G, hD, -⟩ := (hlh.out.ext e).disk
    exact bytes_any hD)
  have hSt := Lib.hid (show ∀ W, Ext w W → Calls Tryd.prog 39 #[.pointer (some ⟨p, 0, none⟩)] W fun e w' => e = .returned (.int .i64 (g.d.st.length : Int)) ∧ W = w' from fun W e => by
    obtain ⟨G, hD, -⟩ := (hlh.out.ext e).disk
    exact staged_any hD)
  have hS := Lib.hid (show ∀ W, Ext w W → (W.cell? ⟨q2, 0, none⟩ = some (.pointer (some ⟨p2, 0, none⟩)) ∧ W.cell? ⟨q2, 1, none⟩ = some (.int .i64 (g.h.gen : Int)) ∧ W.cell? ⟨q2, 3, none⟩ = some (.int .i64 (g.h.used : Int)) ∧ W.cell? ⟨q2, 4, none⟩ = some (.slice al (scan g.u).length cl) ∧ W.cell? ⟨p2, 0, none⟩ = some (.slice a g.d.kept.length c) ∧ W.cell? ⟨p2, 1, none⟩ = some (.slice a' g.d.st.length c')) from fun W e => by
    have c := (hrlh.out.ext e).cells
    exact ⟨c.1, c.2.1, c.2.2.2.1, by rw [← hvlh.out]; exact c.2.2.2.2, e.cell hk0.out, e.cell hk1.out⟩)
  have hsq : seqL (scan g.u) (scan g.u) = true := seqL_true.2 rfl
  have hsk : seq g.d.kept g.d.kept = true := seq_self _
  have hll2 := Lib.hid (show LL w (.slice al (scan g.u).length cl) (scan g.u) from by rw [← hvl]; exact hl)
  have eww := Ext.refl w
  clear l s hw rl rv hkb hl k0 k1 hvl hM hZ
  go_enter Tryd.func29, Tryd.ntmps29
  go_upto_region 1 with fail
  simp only [List.append_eq, List.cons_append, List.nil_append]
  go_region_held3 (fun W => W.cell? ⟨q2, 0, none⟩ = some (.pointer (some ⟨p2, 0, none⟩)) ∧ W.cell? ⟨q2, 1, none⟩ = some (.int .i64 (g.h.gen : Int)) ∧ W.cell? ⟨q2, 3, none⟩ = some (.int .i64 (g.h.used : Int)) ∧ W.cell? ⟨q2, 4, none⟩ = some (.slice al (scan g.u).length cl) ∧ W.cell? ⟨p2, 0, none⟩ = some (.slice a g.d.kept.length c) ∧ W.cell? ⟨p2, 1, none⟩ = some (.slice a' g.d.st.length c'))
    ((refine hS.out _ ?_; first | exact (((eww.drew.trans e1).trans e2).trans e3).trans e4 | exact ((eww.drew.trans e1).trans e2).trans e3 | exact (eww.drew.trans e1).trans e2 | exact eww.drew.trans e1 | exact eww.drew))
    (first
      | (go_at_call 33; refine (hRc.out _ eww.drew).mono ?_; rintro e w1 ⟨v1, rfl, o1, e1⟩)
      | (go_at_call 21; refine (lists_any _ _ _ _ w1 o1.ll (hll2.out.ext (eww.drew.trans e1))).mono ?_; rintro e w2 ⟨rfl, e2⟩)
      | (go_at_call 41; refine (hU.out _ ((eww.drew.trans e1).trans e2)).mono ?_; rintro e w' ⟨rfl, rfl⟩)
      | (go_at_call 51; refine (hR.out _ ((eww.drew.trans e1).trans e2)).mono ?_; rintro e w3 ⟨rfl, e3⟩)
      | (go_at_call 60; refine (hSz.out _ (((eww.drew.trans e1).trans e2).trans e3)).mono ?_; rintro e w' ⟨rfl, rfl⟩)
      | (go_at_call 42; refine (hG.out _ (((eww.drew.trans e1).trans e2).trans e3)).mono ?_; rintro e w' ⟨rfl, rfl⟩)
      | (go_at_call 30; refine (hBy.out _ (((eww.drew.trans e1).trans e2).trans e3)).mono ?_; rintro e w4 ⟨v4, rfl, b4, e4⟩)
      | (go_at_call 20; refine (same9_any _ _ _ _ w4 b4 (hkbh.out.ext ((((eww.drew.trans e1).trans e2).trans e3).trans e4))).mono ?_; rintro e w' ⟨rfl, rfl⟩)
      | (go_at_call 39; refine (hSt.out _ ((((eww.drew.trans e1).trans e2).trans e3).trans e4)).mono ?_; rintro e w' ⟨rfl, rfl⟩))
  all_goals go_wp2
  all_goals go_ret
  all_goals exact ⟨rfl, (((eww.drew.trans e1).trans e2).trans e3).trans e4⟩
end Go.Proofs.YtmpjcnopakfdmaaDoor
