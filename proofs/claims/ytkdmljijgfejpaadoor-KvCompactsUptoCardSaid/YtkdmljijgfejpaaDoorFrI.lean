/- The chapter's example; are bytes one; what Put and All answer, as bytes. -/
import Derived.Test.YtkdmljijgfejpaaDoorFrH
import Derived.Lib.SlBytesConst
namespace Go.Proofs.YtkdmljijgfejpaaDoor
set_option linter.unusedVariables false
set_option linter.unusedSimpArgs false
open Go.RowKit Fr

theorem same9_any (u v : Value) (a b : List UInt8) (w : World) (ha : Bytes w u a) (hb : Bytes w v b) :
    Calls Tryd.prog 14 #[u, v] w fun e w' => e = .returned (.bool (seq a b)) ∧ w = w' := by
  have k1 := conv_bytes ha
  have k2 := conv_bytes hb
  obtain ⟨a1, c1, rfl, -⟩ := ha
  obtain ⟨a2, c2, rfl, -⟩ := hb
  go_enter Tryd.func14, Tryd.ntmps14
  go_wp2
  go_ret
  exact ⟨rfl, rfl⟩
/-- what Put answers -/
def putB (l : List UInt8) : List UInt8 := if errOf l = 0 then frm l else []
def allB (ls : List (List UInt8)) : List UInt8 := if errAll ls = 0 then all ls else []
theorem putB_of {w : World} {base : Nat} {x : Value} {l : List UInt8} (h : (errOf l = 0 ∧ OwnB w base x (frm l)) ∨ (errOf l ≠ 0 ∧ x = .slice none 0 0)) : Bytes w x (putB l) := by
  unfold putB
  rcases h with ⟨h1, h2⟩ | ⟨h1, rfl⟩
  · rw [if_pos h1]; exact h2.bytes
  · rw [if_neg h1]; exact Bytes.nil w
theorem allB_of {w : World} {base : Nat} {x : Value} {ls : List (List UInt8)} (h : (errAll ls = 0 ∧ OwnB w base x (all ls)) ∨ (errAll ls ≠ 0 ∧ x = .slice none 0 0)) : Bytes w x (allB ls) := by
  unfold allB
  rcases h with ⟨h1, h2⟩ | ⟨h1, rfl⟩
  · rw [if_pos h1]; exact h2.bytes
  · rw [if_neg h1]; exact Bytes.nil w
theorem LL.one {w : World} {g : Nat} {u : Value} {l : List UInt8} (hc : w.cell? ⟨g, 0, none⟩ = some u) (hb : Bytes w u l) : LL w (.slice (some ⟨g, 0, none⟩) 1 1) [l] := by
  refine ⟨_, 1, rfl, Nat.le_refl _, by decide, fun h => (by cases h), fun j m hj => ?_⟩
  match j, hj with
  | 0, hj => simp at hj; subst hj; exact ⟨g, 0, u, rfl, hc, hb⟩
theorem frm_a : (frm [97]).length = 7 ∧ (frm [97]).getD 1 0 = 1 ∧ (frm [97]).getD 6 0 = 97 := by decide +kernel
theorem scan_a : scan (frm [97]) = [[97]] := by
  have := scan_frm (l := [97]) (by decide) []
  rwa [List.append_nil] at this
end Go.Proofs.YtkdmljijgfejpaaDoor
