/- CredsMakes, walked. -/
import Derived.Test.YtnhgkklbjhjggaaCrO
import Derived.Test.YtnhgkklbjhjggaaCrT
namespace Go.Proofs.Ytnhgkklbjhjggaa
open Go.RowKit Cr

theorem Tb.nodup {w : World} {t : Value} {l : List Us} (h : Tb w t l) : (names l).Nodup := let ⟨_, _, _, _, _, _, _, h⟩ := h; h
set_option maxRecDepth 20000 in
set_option maxHeartbeats 1000000 in
theorem credsMakes_any (v : Value) (l : List Us) (w : World) (h : Uss w v l) :
    Calls Try.prog 6 #[v] w fun e w' => e = .returned (.bool true) ∧ Ext w w' := by
  have e0 := Ext.refl w
  have hh := Lib.hid h
  obtain ⟨a, cap, rfl, hlen, -⟩ := Rw.shape h
  clear h
  go_enter Try.func6, Try.ntmps6
  go_upto_region 3 with (first
    | (go_at_call 8; refine (awake_any _).mono ?_; rintro e W1 ⟨rfl, e1⟩)
    | (go_at_call 9; refine (few_any _ l _ (hh.out.ext e1)).mono ?_; rintro e W2 ⟨rfl, rfl⟩))
  have e1h := Lib.hid e1
  clear e0 e1
  cases hf : fewB l
  · go_wp2
    go_ret
    exact ⟨rfl, e1h.out⟩
  have hfe := Lib.hid (few_all hf)
  clear hf
  have hsm := Lib.hid (fun x hx => Nat.le_trans (hfe.out.2 x hx).1 (by decide) : ∀ x ∈ l, x.a.length ≤ 1000)
  have hbad : ∀ z : Int, (wrong l).1 = z → z ≠ 0 → Calls Try.prog 11 #[.slice a l.length cap] W1 (Ret fun r w' => r = .tuple #[.pointer none, .int .i64 z, .int .i64 ((wrong l).2 : Int)] ∧ Ext W1 w') := fun z hz h0 => by
    have := new_bad _ l W1 (hh.out.ext e1h.out) hsm.out (by rw [hz]; exact h0)
    rwa [hz] at this
  have hwr := fun W (e : Ext W1 W) => refWrong_any _ l W (hh.out.ext (e1h.out.trans e))
  rcases wrong_kinds l with hk | hk | hk | hk
  rotate_left
  iterate 3
    have hb := hbad _ hk (by decide)
    rw [hk] at hwr
    obtain ⟨z, hz⟩ : ∃ z, z = (wrong l).2 := ⟨_, rfl⟩
    rw [← hz] at hb hwr
    clear hbad hk hz
    go_wp2_with (first
      | (go_at_call 11; refine hb.mono ?_; rintro e W4 ⟨r, rfl, rfl, e4⟩)
      | (go_at_call 12; refine (hwr _ e4).mono ?_; rintro e W5 ⟨rfl, e5⟩))
    go_ret
    exact ⟨rfl, (e1h.out.trans e4).trans e5⟩
  clear hbad
  have hg := new_good _ l W1 (hh.out.ext e1h.out) hsm.out hk
  rw [hk] at hwr
  go_upto_region 9 with (first
    | (go_at_call 11; refine hg.mono ?_; rintro e W4 ⟨r, rfl, G, rfl, e4, ht⟩)
    | (go_at_call 12; refine (hwr _ e4).mono ?_; rintro e W5 ⟨rfl, e5⟩))
  have hth := Lib.hid (ht.ext e5)
  have hnd := Lib.hid ht.nodup
  have e05 := Lib.hid ((e1h.out.trans e4).trans e5)
  clear hg hwr e4 e5 ht hk
  have hN := names_any _ l _ hth.out (by have := hfe.out.1; omega)
  have hM := fun W (e : Ext W5 W) => refNames_any _ l W (hh.out.ext (e05.out.trans e)) hnd.out (by have := hfe.out.1; omega)
  obtain ⟨S, hS⟩ : ∃ S, S = (names l).mergeSort leB := ⟨_, rfl⟩
  rw [← hS] at hN hM
  clear hS
  go_wp2_with (first
    | (go_at_call 20; refine hN.mono ?_; rintro e W6 ⟨u6, rfl, ho6, e6⟩; obtain ⟨a6, c6, rfl⟩ := ho6.shapeN)
    | (go_at_call 21; refine (hM _ e6).mono ?_; rintro e W7 ⟨u7, rfl, ho7, e7⟩; obtain ⟨a7, c7, rfl⟩ := ho7.shapeN)
    | (go_at_call 19; refine (texts_same _ _ S _ (ho6.sl.ext e7) ho7.sl).mono ?_; rintro e W8 ⟨rfl, e8⟩))
  go_ret
  exact ⟨rfl, ((e05.out.trans e6).trans e7).trans e8⟩
end Go.Proofs.Ytnhgkklbjhjggaa
