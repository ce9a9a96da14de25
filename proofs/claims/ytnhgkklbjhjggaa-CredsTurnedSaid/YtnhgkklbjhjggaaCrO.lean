/- CredsTells, walked. -/
import Derived.Test.YtnhgkklbjhjggaaCrN
namespace Go.Proofs.Ytnhgkklbjhjggaa
open Go.RowKit Cr

theorem few_all {l : List Us} (h : fewB l = true) : l.length ≤ 20 ∧ (∀ x ∈ l, x.a.length ≤ 20 ∧ x.n.length ≤ 80 ∧ x.p.length ≤ 80) := by
  unfold fewB at h
  rw [Bool.and_eq_true, decide_eq_true_iff, List.all_eq_true] at h
  refine ⟨h.2, fun x hx => ?_⟩
  have := h.1 x hx
  unfold smU at this
  simp only [Bool.and_eq_true, decide_eq_true_iff] at this
  exact ⟨this.1.1.1, this.1.1.2, this.1.2⟩
set_option maxRecDepth 20000 in
set_option maxHeartbeats 1000000 in
theorem credsTells_any (v : Value) (l : List Us) (name pw : List UInt8) (vr : Value) (rel : List (List UInt8)) (w : World) (h : Uss w v l) (hn : fit name) (hp : fit pw) (hr : Txs w vr rel) :
    Calls Try.prog 3 #[v, .string (str name), .string (str pw), vr] w fun e w' => e = .returned (.bool true) ∧ Ext w w' := by
  have e0 := Ext.refl w
  have hh := Lib.hid h
  have hrh := Lib.hid hr
  obtain ⟨⟨ar, capr, rfl, hleR, hcmR, hnR, -⟩, -⟩ := hr
  obtain ⟨a, cap, rfl, hlen, -⟩ := Rw.shape h
  have hrl : (rel.length : Int) ≤ 9223372036854775807 := by unfold maxLen at hcmR; omega
  unfold fit at hn hp
  have hnI : (name.length : Int) ≤ 9223372036854775807 := by omega
  have hpI : (pw.length : Int) ≤ 9223372036854775807 := by omega
  clear h hnR hcmR hleR
  go_enter Try.func3, Try.ntmps3
  go_upto_region 3 with (first
    | (go_at_call 8; refine (awake_any _).mono ?_; rintro e W1 ⟨rfl, e1⟩)
    | (go_at_call 9; refine (few_any _ l _ (hh.out.ext e1)).mono ?_; rintro e W2 ⟨rfl, rfl⟩))
  have e1h := Lib.hid e1
  clear e0 e1
  cases hf : fewB l
  · go_wp2
    go_ret
    exact ⟨rfl, e1h.out⟩
  have hfe := Lib.hid (few_all hf)
  clear hf
  rcases Nat.lt_or_ge 80 name.length with hn8 | hn8
  · have : (80 : Int) < (name.length : Int) := by omega
    go_wp2
    go_ret
    exact ⟨rfl, e1h.out⟩
  rcases Nat.lt_or_ge 80 pw.length with hp8 | hp8
  · have : (80 : Int) < (pw.length : Int) := by omega
    have : ¬ (80 : Int) < (name.length : Int) := by omega
    go_wp2
    go_ret
    exact ⟨rfl, e1h.out⟩
  rcases Nat.lt_or_ge 20 rel.length with hr8 | hr8
  · have : (20 : Int) < (rel.length : Int) := by omega
    have : ¬ (80 : Int) < (pw.length : Int) := by omega
    have : ¬ (80 : Int) < (name.length : Int) := by omega
    go_wp2
    go_ret
    exact ⟨rfl, e1h.out⟩
  have g1 : ¬ (20 : Int) < (rel.length : Int) := by omega
  have g2 : ¬ (80 : Int) < (pw.length : Int) := by omega
  have g3 : ¬ (80 : Int) < (name.length : Int) := by omega
  have S1 := fun W => same_any name pw W hn hp
  have S2 := fun W => same_any name name W hn hn
  rw [seq_self] at S2
  obtain ⟨b, hb⟩ : ∃ b, b = seq name pw := ⟨_, rfl⟩
  rw [← hb] at S1
  go_upto_region 7 with (first
    | (go_at_call 10; (with_reducible refine (S1 _).mono ?_); rintro e W2 ⟨rfl, e2⟩)
    | (go_at_call 10; (with_reducible refine (S2 _).mono ?_); rintro e W3 ⟨rfl, e3⟩))
  have e03 := Lib.hid ((e1h.out.trans e2).trans e3)
  clear e1h e2 e3 S1 S2 g1 g2 g3
  have hsm := Lib.hid (fun x hx => Nat.le_trans (hfe.out.2 x hx).1 (by decide) : ∀ x ∈ l, x.a.length ≤ 1000)
  have hsp := Lib.hid (fun x hx => Nat.le_trans (hfe.out.2 x hx).2.2 (by decide) : ∀ x ∈ l, x.p.length ≤ 1000)
  have hbad : ∀ z : Int, (wrong l).1 = z → z ≠ 0 → Calls Try.prog 11 #[.slice a l.length cap] W3 (Ret fun r w' => r = .tuple #[.pointer none, .int .i64 z, .int .i64 ((wrong l).2 : Int)] ∧ Ext W3 w') := fun z hz h0 => by
    have := new_bad _ l W3 (hh.out.ext e03.out) hsm.out (by rw [hz]; exact h0)
    rwa [hz] at this
  have hwr := fun W (e : Ext W3 W) => refWrong_any _ l W (hh.out.ext (e03.out.trans e))
  rcases wrong_kinds l with hk | hk | hk | hk
  rotate_left
  iterate 3
    have hb := hbad _ hk (by decide)
    rw [hk] at hwr
    clear hbad hk
    go_wp2_with (first
      | (go_at_call 11; refine hb.mono ?_; rintro e W4 ⟨r, rfl, rfl, e4⟩)
      | (go_at_call 12; refine (hwr _ e4).mono ?_; rintro e W5 ⟨rfl, e5⟩))
    go_ret
    exact ⟨rfl, (e03.out.trans e4).trans e5⟩
  clear hbad
  have hg := new_good _ l W3 (hh.out.ext e03.out) hsm.out hk
  rw [hk] at hwr
  go_upto_region 13 with (first
    | (go_at_call 11; refine hg.mono ?_; rintro e W4 ⟨r, rfl, G, rfl, e4, ht⟩)
    | (go_at_call 12; refine (hwr _ e4).mono ?_; rintro e W5 ⟨rfl, e5⟩))
  have hth := Lib.hid (ht.ext e5)
  have e05 := Lib.hid ((e03.out.trans e4).trans e5)
  clear hg hwr e4 e5 e03 ht hk
  go_wp2_with (first
    | (go_at_call 13; refine (check_any _ l name pw _ hth.out hsp.out hp).mono ?_; rintro e W6 ⟨rfl, e6⟩)
    | (go_at_call 14; refine (refCheck_any _ l name pw _ (hh.out.ext (e05.out.trans e6))).mono ?_; rintro e W7 ⟨rfl, rfl⟩)
    | (go_at_call 16; refine (attrs_any _ _ l name rel _ (hth.out.ext e6) hsm.out (hrh.out.ext (e05.out.trans e6)) (by omega)).mono ?_; rintro e W8 ⟨u1, rfl, ho, ⟨a8, cap8, rfl⟩, e8⟩)
    | (go_at_call 17; refine (refAttrs_any _ _ l name rel _ (hh.out.ext ((e05.out.trans e6).trans e8)) hsm.out (hrh.out.ext ((e05.out.trans e6).trans e8)) (by omega)).mono ?_; rintro e W9 ⟨u2, rfl, ho2, ⟨a9, cap9, rfl⟩, e9⟩)
    | (go_at_call 15; refine (pairs_same _ _ (attrs l name rel) _ (ho.prs.ext e9) ho2.prs).mono ?_; rintro e W10 ⟨rfl, e10⟩))
  go_ret
  exact ⟨rfl, (((e05.out.trans e6).trans e8).trans e9).trans e10⟩
end Go.Proofs.Ytnhgkklbjhjggaa
