/- The law matriculalaw19.CredsReleased: for every input it returns true; every argument reads as it did. No condition. -/
import Derived.Test.YtnhgkklbjhjggaaLift
import Derived.Test.YtnhgkklbjhjggaaCrQ
namespace Go.Proofs.Ytnhgkklbjhjggaa
open Go.ChangeShapes Go.WideShapes Go.ChangeAt Go.RowKit

set_option maxRecDepth 100000 in
theorem credsReleased_lifted (os : Os) (started : os.Started) (H : Type) (enc : TypeId × Value → H) :
    ReturnsInHanded {} Try.checked os 5 .any (Rows.credsReleasedSpec.pre6 enc Try.prog Try.f5 Rows.credsReleasedRow.domain false) (Rows.credsReleasedSpec.post enc Try.prog Try.f5 false true false false) := by
  refine returnsInHanded_of_change (C := Try.checked) own started (by kernel_rfl) Try.func5
    (ChangeSpec.witness6 (enc := enc) (C := Try.checked) false ⟨#[], #[.slice none 0 0, .string ⟨#[]⟩, .slice none 0 0, .slice none 0 0], []⟩ 8 (by kernel_rfl) (by kernel_rfl) (by kernel_rfl) (by kernel_rfl)) ?_
  intro W base args ds gs before hval0 hW _ _
  have hval : ∀ (j : Nat) t v, Try.f5.params[j]? = some t → args[j]? = some v → Value.okWide Try.prog W .any base t v := hval0
  obtain ⟨p, q, hA0, hV, hpq, hfz, hnd⟩ := id hW
  have hA : DataW.TrodAll enc Try.prog W 0 (fun _ => true) true Try.f5.params.toList args.toList ds p := hA0
  rw [Try.params5] at hA hval
  obtain ⟨v0, v1, v2, v3, d0, d1, d2, d3, p0, p1, p2, p3, rfl, rfl, rfl, h0, h1, h2, h3⟩ := trodAll_four hA
  obtain ⟨rfl, rfl⟩ := trodVars_none hV
  obtain ⟨x0, h0⟩ := open_users (hval 0 22 v0 rfl rfl) h0
  obtain ⟨x1, hb1, rfl⟩ := open_str (hval 1 9 v1 rfl rfl) h1
  obtain ⟨x2, h2⟩ := open_txs (hval 2 23 v2 rfl rfl) h2
  obtain ⟨x3, h3⟩ := open_txs (hval 3 23 v3 rfl rfl) h3
  clear hA0 hval0
  refine (credsReleased_any v0 x0 x1 v2 x2 v3 x3 W h0 hb1 h2 h3).mono fun e W' ⟨he, hb⟩ => ?_
  subst he
  exact ⟨_, rfl, law_post laidOut (by rw [Try.params5]; exact of_decide_eq_true (by kernel_rfl)) rfl (by kernel_rfl) Try.underlying4 hW rfl hb⟩

theorem credsReleased_holds : Rows.CredsReleasedSaid :=
  OpenClaim.holds_of_wide 5 Try.f5 rfl rfl rfl rfl rfl rfl rfl ⟨rfl, rfl, rfl, rfl, rfl⟩ rfl rfl rfl rfl rfl (by kernel_rfl) Try.func5 (by kernel_rfl)
    (of_decide_eq_true (by kernel_rfl)) (by unfold Func.isWrapper; first | (rw [if_pos (by decide +kernel)]; kernel_rfl) | (rw [if_neg (by decide +kernel)]; exact ⟨rfl, rfl⟩))
    (fun os started H enc _ => credsReleased_lifted os started H enc)
end Go.Proofs.Ytnhgkklbjhjggaa
