/- The chapter's example; are bytes one; what Put and All answer, as bytes. -/
import Derived.Test.YtmpjcnopakfdmaaDoorFrH
import Derived.Lib.SlBytesConst
namespace Go.Proofs.YtmpjcnopakfdmaaDoor
set_option linter.unusedVariables false
set_option linter.unusedSimpArgs false
open Go.RowKit Fr

theorem same9_any (u v : Value) (a b : List UInt8) (w : World) (ha : Bytes w u a) (hb : Bytes w v b) :
    Calls Tryd.prog 20 #[u, v] w fun e w' => e = .returned (.bool (seq a b)) ∧ w = w' := by
  have k1 := conv_bytes ha
  have k2 := conv_bytes hb
  obtain ⟨a1, c1, rfl, -⟩ := ha
  obtain ⟨a2, c2, rfl, -⟩ := hb
  go_enter Tryd.func20, Tryd.ntmps20
  go_wp2
  go_ret
  exact ⟨rfl, rfl⟩
/-- what Put answers -/
def putB (l : List UInt8) : List UInt8 := if errOf l = 0 then frm l else []
def allB (ls : List (List UInt8)) : List UInt8 := if errAll ls = 0 then all ls else []
theorem putB_of {w : World} {base : Nat} {x : Value} {l : List UInt8} (h : (errOf l = 0 ∧ OwnB w base x (frm l)) ∨ (errOf l ≠ 0 ∧ x = .slice none 0 0)) : Bytes w x (putB l) := by
  unfold putB
  rcases h with ⟨h1, h2⟩ | ⟨h1, rfl⟩
  · rw [if_pos h1]; exact h2.bytes
  · rw [if_neg h1]; exact Bytes.nil w
theorem allB_of {w : World} {base : Nat} {x : Value} {ls : List (List UInt8)} (h : (errAll ls = 0 ∧ OwnB w base x (all ls)) ∨ (errAll ls ≠ 0 ∧ x = .slice none 0 0)) : Bytes w x (allB ls) := by
  unfold allB
  rcases h with ⟨h1, h2⟩ | ⟨h1, rfl⟩
  · rw [if_pos h1]; exact h2.bytes
  · rw [if_neg h1]; exact Bytes.nil w
theorem LL.one {w : World} {g : Nat} {u : Value} {l : List UInt8} (hc : w.cell? ⟨g, 0, none⟩ = some u) (hb : Bytes w u l) : LL w (.slice (some ⟨g, 0, none⟩) 1 1) [l] := by
  refine ⟨_, 1, rfl, Nat.le_refl _, by decide, fun h => (by cases h), fun j m hj => ?_⟩
  match j, hj with
  | 0, hj => simp at hj; subst hj; exact ⟨g, 0, u, rfl, hc, hb⟩
theorem frm_a : (frm [97]).length = 7 ∧ (frm [97]).getD 1 0 = 1 ∧ (frm [97]).getD 6 0 = 97 := by decide +kernel
theorem scan_a : scan (frm [97]) = [[97]] := by
  have := scan_frm (l := [97]) (by decide) []
  rwa [List.append_nil] at this
set_option maxRecDepth 20000 in
set_option maxHeartbeats 1000000 in
theorem awake9_any (w : World) (hw : Halves w) : Calls Tryd.prog 12 #[] w fun e w' => e = .returned (.bool true) ∧ Ext w w' := by
  have kc := fun (w : World) (C : Array Value) (n c : Nat) => Lib.run_convert_bytes_const (P := Tryd.prog) w 22 5 C n c Tryd.underlying22 Tryd.underlying5
  have hwh := Lib.hid hw
  have e0 := Lib.hid (Ext.refl w)
  have q9 : seqL [[97]] [[97]] = true := seqL_true.2 rfl
  clear hw
  go_enter Tryd.func12, Tryd.ntmps12
  go_upto_region 2 with (go_at_call 14; refine (put_any _ [97] _ (hwh.out.ext (e0.out.alloc _)) (Bytes.lit rfl rfl rfl (Nat.le_refl _) (show 1 ≤ maxLen by decide))).mono ?_; rintro e w1 ⟨r, rfl, x1, rfl, e1, ⟨-, hx1⟩ | ⟨hx1, -⟩⟩; rotate_left; exact absurd rfl hx1)
  have e01 := Lib.hid ((e0.out.alloc _).trans e1)
  have hl := hx1.bytes
  obtain ⟨g, cap, rfl, -, -, -, -, -⟩ := hx1.cells (by rw [frm_a.1]; decide)
  rw [frm_a.1] at hl ⊢
  have c1 := hl.gt 1 (by rw [frm_a.1]; decide)
  have c6 := hl.gt 6 (by rw [frm_a.1]; decide)
  rw [frm_a.2.1] at c1
  rw [frm_a.2.2] at c6
  have hlh := Lib.hid hl
  have hsc := scan_any _ _ w1 (hwh.out.ext e01.out) hl (by rw [frm_a.1]; decide)
  rw [scan_a] at hsc
  clear hx1 hl e1
  go_upto_region 3 with (go_at_call 18; refine hsc.mono ?_; rintro e w2 ⟨r, rfl, x2, rfl, o2, e2⟩)
  have d1 := e2.cell c1
  have d6 := e2.cell c6
  have o2h := Lib.hid o2.ll
  have e2h := Lib.hid (e01.out.trans e2)
  clear c1 c6 hsc o2 e2
  have hB := Lib.hid (show LL ((w2.alloc (.cells #[.int .u8 97] 5 (1, 2))).alloc (.cells #[.slice (some ⟨w2.heap.size, 0, none⟩) 1 1] 22)) (.slice (some ⟨w2.heap.size + 1, 0, none⟩) 1 1) [[97]] from by
    have h := cell_one_new (w2.alloc (.cells #[.int .u8 97] 5 (1, 2))) (.slice (some ⟨w2.heap.size, 0, none⟩) 1 1) 22 0 _ rfl
    rw [World.size_alloc] at h
    exact LL.one h ((Bytes.lit (l := [97]) (n := 1) (cap := 1) rfl rfl rfl (Nat.le_refl _) (by decide)).ext ((Ext.refl _).alloc _)))
  have hA := Lib.hid (o2h.out.ext (((Ext.refl w2).alloc (.cells #[.int .u8 97] 5 (1, 2))).alloc (.cells #[.slice (some ⟨w2.heap.size, 0, none⟩) 1 1] 22)))
  go_wp2_with (first
    | (go_at_call 21; refine (lists_any _ _ _ _ _ hA.out hB.out).mono ?_; rintro e w3 ⟨rfl, e3⟩)
    | (go_at_call 22; refine (size_any 1 (by decide) (by decide) _).mono ?_; rintro e w4 ⟨rfl, rfl⟩))
  go_ret
  exact ⟨rfl, ((e2h.out.alloc _).alloc _).trans e3⟩
end Go.Proofs.YtmpjcnopakfdmaaDoor
