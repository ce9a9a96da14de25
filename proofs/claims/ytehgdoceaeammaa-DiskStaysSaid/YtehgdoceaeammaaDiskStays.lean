/- The law matriculalaw08.DiskStays: for every input it returns true; every argument reads as it did. No condition. -/
import Derived.Test.YtehgdoceaeammaaLift
import Derived.Test.YtehgdoceaeammaaOpen
import Derived.Test.YtehgdoceaeammaaDiskT
namespace Go.Proofs.Ytehgdoceaeammaa
open Go.ChangeShapes Go.WideShapes Go.ChangeAt Go.RowKit

set_option maxRecDepth 100000 in
theorem diskStays_lifted (os : Os) (started : os.Started) (H : Type) (enc : TypeId × Value → H) :
    ReturnsInHanded {} Try.checked os 6 .any (Rows.diskStaysSpec.pre6 enc Try.prog Try.f6 Rows.diskStaysRow.domain false) (Rows.diskStaysSpec.post enc Try.prog Try.f6 false true false false) := by
  refine returnsInHanded_of_change (C := Try.checked) own started (by kernel_rfl) Try.func6
    (ChangeSpec.witness6 (enc := enc) (C := Try.checked) false ⟨#[], #[.int .i64 0, .slice none 0 0, .int .i64 0, .slice none 0 0, .slice none 0 0], []⟩ 8 (by kernel_rfl) (by kernel_rfl) (by kernel_rfl) (by kernel_rfl)) ?_
  intro W base args ds gs before hval0 hW _ _
  have hval : ∀ (j : Nat) t v, Try.f6.params[j]? = some t → args[j]? = some v → Value.okWide Try.prog W .any base t v := hval0
  obtain ⟨p, q, hA0, hV, hpq, hfz, hnd⟩ := id hW
  have hA : DataW.TrodAll enc Try.prog W 0 (fun _ => true) true Try.f6.params.toList args.toList ds p := hA0
  rw [Try.params6] at hA hval
  obtain ⟨v0, vs0, d0, ds0, p0, q0, hargs, rfl, rfl, h0, r0⟩ := trodAll_cons hA
  obtain ⟨v1, vs1, d1, ds1, p1, q1, rfl, rfl, rfl, h1, r1⟩ := trodAll_cons r0
  obtain ⟨v2, vs2, d2, ds2, p2, q2, rfl, rfl, rfl, h2, r2⟩ := trodAll_cons r1
  obtain ⟨v3, vs3, d3, ds3, p3, q3, rfl, rfl, rfl, h3, r3⟩ := trodAll_cons r2
  obtain ⟨v4, vs4, d4, ds4, p4, q4, rfl, rfl, rfl, h4, r4⟩ := trodAll_cons r3
  obtain ⟨rfl, rfl, rfl⟩ := trodAll_nil r4
  obtain ⟨args⟩ := args
  dsimp only at hargs
  subst hargs
  obtain ⟨rfl, rfl⟩ := trodVars_none hV
  obtain ⟨x0, hl0, hh0, rfl⟩ := open_i64 (hval 0 3 v0 rfl rfl) h0
  obtain ⟨x1, h1⟩ := open_ops (hval 1 32 v1 rfl rfl) h1
  obtain ⟨x2, hl2, hh2, rfl⟩ := open_i64 (hval 2 3 v2 rfl rfl) h2
  obtain ⟨x3, h3⟩ := open_bytes (hval 3 22 v3 rfl rfl) h3
  obtain ⟨x4, h4⟩ := open_bytes (hval 4 22 v4 rfl rfl) h4
  clear hA0 hval0
  refine (diskStays_any x0 v1 x1 x2 v3 x3 v4 x4 W hl0 hh0 h1 hl2 hh2 h3 h4).mono fun e W' ⟨he, hb⟩ => ?_
  subst he
  exact ⟨_, rfl, law_post laidOut (by rw [Try.params6]; exact of_decide_eq_true (by kernel_rfl)) rfl (by kernel_rfl) Try.underlying4 hW rfl hb⟩

theorem diskStays_holds : Rows.DiskStaysSaid :=
  OpenClaim.holds_of_wide 6 Try.f6 rfl rfl rfl rfl rfl rfl rfl ⟨rfl, rfl, rfl, rfl, rfl⟩ rfl rfl rfl rfl rfl (by kernel_rfl) Try.func6 (by kernel_rfl)
    (of_decide_eq_true (by kernel_rfl)) (by unfold Func.isWrapper; first | (rw [if_pos (by decide +kernel)]; kernel_rfl) | (rw [if_neg (by decide +kernel)]; exact ⟨rfl, rfl⟩))
    (fun os started H enc _ => diskStays_lifted os started H enc)
end Go.Proofs.Ytehgdoceaeammaa
