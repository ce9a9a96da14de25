/- The chapter's example. -/
import Derived.Test.YtkdmljijgfejpaaDoorKvP
namespace Go.Proofs.YtkdmljijgfejpaaDoor
set_option linter.unusedVariables false
set_option linter.unusedSimpArgs false
open Go.RowKit Kv Dk Wl Fr

theorem Rs.block {α : Type} {E : TypeId} {k : Nat} {enc : α → List Value} {fits : α → Prop} {w : World} {l : List α} {C : Array Value} {fr : Nat × Nat} {g : Nat} (hk : 0 < k) (hl : ∀ x, (enc x).length = k) (hg : g = w.heap.size) (hC : C.toList = l.flatMap enc) (hn : l.length ≤ maxLen) (hf : ∀ x ∈ l, fits x) : Rs k enc fits (w.alloc (.cells C E fr)) (.slice (some ⟨g, 0, none⟩) l.length l.length) l := by
  subst hg
  refine ⟨_, _, rfl, Nat.le_refl _, hn, fun h => by simp at h, fun j y hj => ⟨w.heap.size, 0, enc y, rfl, hl y, fun i u hu => ?_, rfl, hf y (List.mem_of_getElem? hj)⟩⟩
  rw [cell_of_row _ _ _ _ _ _ (heap_alloc_new w _), Nat.zero_add, ← Array.getElem?_toList, hC]
  exact rflat_get hl l j i y u hj hu
theorem fit_small {l : List UInt8} (h : l.length ≤ 100) : fit l := by unfold fit; omega
attribute [local irreducible] mk opL comL Kv.after
set_option maxRecDepth 20000 in
set_option maxHeartbeats 4000000 in
theorem awake11_any (w : World) (hw : Halves w) : Calls Tryd.prog 8 #[] w fun e w' => e = .returned (.bool true) ∧ Ext w w' := by
  obtain ⟨g1, g2, a1, a2, a3, a4, a5, a6, a7⟩ := awake_kv
  have q1 := Lib.hid a1
  have q2 := Lib.hid a2
  have q3 := Lib.hid a3
  have q4 := Lib.hid a4
  have q5 := Lib.hid a5
  have q6 := Lib.hid a6
  have q7 := Lib.hid a7
  have hG1 : RowKit.Hid (Kv.get (after (after [] aw1) aw2) [120] = some [97]) := Lib.hid (by unfold Kv.after; decide)
  have hG2 : RowKit.Hid (Kv.get (after (after [] aw1) aw2) [121] = none) := Lib.hid (by unfold Kv.after; decide)
  have hL1 : RowKit.Hid ((after [] aw1).length ≤ 1) := Lib.hid (by unfold Kv.after; decide)
  have hs0 := Lib.hid (show Sane (g0 24) from (new_log (n := 24) (by decide) (by decide) 0).sane)
  have hst0 := Lib.hid (show (g0 24).d.st.length ≤ 90000 from by unfold g0 mk; exact Nat.zero_le _)
  have hM : Calls Tryd.prog 30 #[.int .u8 20] w (Ret fun u w' => ∃ p s, u = .tuple #[.pointer (some ⟨p, 0, none⟩), .pointer (some ⟨s, 0, none⟩)] ∧ Ext w w' ∧ StM w' (from_ w) s p (g0 24) []) := made_any 20 w hw
  have hwh := Lib.hid hw
  clear hw a1 a2 a3 a4 a5 a6 a7
  have hC1 := Lib.hid (fun W : World => show Chs (W.alloc (.cells #[.string (str [121]), .string (str [98]), .bool false] 26)) (.slice (some ⟨W.heap.size, 0, none⟩) 1 1) aw1 from Rs.block (l := aw1) (by decide) chc_len rfl rfl (by decide) fun x hx => by
    rw [aw1, List.mem_singleton] at hx; subst hx; exact ⟨fit_small (by decide), fit_small (by decide)⟩)
  have hC2 := Lib.hid (fun W : World => show Chs (W.alloc (.cells #[.string (str [120]), .string (str [97]), .bool false, .string (str [121]), .string (str []), .bool true] 26)) (.slice (some ⟨W.heap.size, 0, none⟩) 2 2) aw2 from Rs.block (l := aw2) (by decide) chc_len rfl rfl (by decide) fun x hx => by
    rw [aw2, List.mem_cons, List.mem_singleton] at hx; rcases hx with rfl | rfl <;> exact ⟨fit_small (by decide), fit_small (by decide)⟩)
  go_enter Tryd.func8, Tryd.ntmps8
  go_upto_region 4 with (go_at_call 30; refine hM.mono ?_; rintro e w1 ⟨r, rfl, p, s, rfl, e1, k1⟩)
  have eA := (Ext.refl w1).alloc (.cells #[.string (str [121]), .string (str [98]), .bool false] 26)
  have hCm := kvCommit_any (k1.ext eA) hs0.out hst0.out (hwh.out.ext (e1.trans eA)) (not_from hwh.out) (hC1.out w1) (by decide) (by decide) oks_nil (fun h => absurd (q3.out.symm.trans h) (by decide))
  rw [q1.out] at hCm
  have eAh := Lib.hid (e1.trans eA)
  clear hM k1 e1 eA
  go_upto_region 5 with (go_at_call 18; refine hCm.mono ?_; rintro e w2 ⟨rfl, c2, k2⟩)
  have e2 := Lib.hid (eAh.out.fromC c2)
  have k2' := Lib.hid (k2.mono (from_grow eAh.out))
  clear hCm c2 k2
  have eB := (Ext.refl w2).alloc (.cells #[.string (str [120]), .string (str [97]), .bool false, .string (str [121]), .string (str []), .bool true] 26)
  have hCm := kvCommit_any (k2'.out.ext eB) q5.out (by rw [q6.out]; exact Nat.zero_le _) (hwh.out.ext (e2.out.trans eB)) (not_from hwh.out) (hC2.out w2) (by have := hL1.out; show (after [] aw1).length + 2 ≤ _; omega) (by decide) q7.out (fun h => absurd (q4.out.symm.trans h) (by decide))
  rw [q2.out] at hCm
  have eBh := Lib.hid (e2.out.trans eB)
  clear k2' e2 eB
  go_upto_region 6 with (go_at_call 18; refine hCm.mono ?_; rintro e w3 ⟨rfl, c3, k3⟩)
  have e3 := Lib.hid (eBh.out.fromC c3)
  have hA := kvGet_any k3 [120]
  have hB := kvGet_any k3 [121]
  rw [hG1.out] at hA
  rw [hG2.out] at hB
  clear hCm c3 k3
  go_upto_region 7 with (go_at_call 31; refine hA.mono ?_; rintro e w' ⟨rfl, rfl⟩)
  go_upto_region 8 with (go_at_call 31; refine hB.mono ?_; rintro e w' ⟨rfl, rfl⟩)
  go_wp2
  go_ret
  exact ⟨rfl, e3.out⟩
end Go.Proofs.YtkdmljijgfejpaaDoor
