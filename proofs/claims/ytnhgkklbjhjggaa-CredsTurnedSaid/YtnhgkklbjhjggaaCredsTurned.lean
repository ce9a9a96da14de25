/- The law matriculalaw19.CredsTurned: for every input it returns true; every argument reads as it did. No condition. -/
import Derived.Test.YtnhgkklbjhjggaaLift
import Derived.Test.YtnhgkklbjhjggaaCrV
namespace Go.Proofs.Ytnhgkklbjhjggaa
open Go.ChangeShapes Go.WideShapes Go.ChangeAt Go.RowKit

set_option maxRecDepth 100000 in
theorem credsTurned_lifted (os : Os) (started : os.Started) (H : Type) (enc : TypeId × Value → H) :
    ReturnsInHanded {} Try.checked os 7 .any (Rows.credsTurnedSpec.pre6 enc Try.prog Try.f7 Rows.credsTurnedRow.domain false) (Rows.credsTurnedSpec.post enc Try.prog Try.f7 false true false false) := by
  refine returnsInHanded_of_change (C := Try.checked) own started (by kernel_rfl) Try.func7
    (ChangeSpec.witness6 (enc := enc) (C := Try.checked) false ⟨#[], #[.slice none 0 0, .string ⟨#[]⟩, .string ⟨#[]⟩, .slice none 0 0], []⟩ 8 (by kernel_rfl) (by kernel_rfl) (by kernel_rfl) (by kernel_rfl)) ?_
  intro W base args ds gs before hval0 hW _ _
  have hval : ∀ (j : Nat) t v, Try.f7.params[j]? = some t → args[j]? = some v → Value.okWide Try.prog W .any base t v := hval0
  obtain ⟨p, q, hA0, hV, hpq, hfz, hnd⟩ := id hW
  have hA : DataW.TrodAll enc Try.prog W 0 (fun _ => true) true Try.f7.params.toList args.toList ds p := hA0
  rw [Try.params7] at hA hval
  obtain ⟨v0, v1, v2, v3, d0, d1, d2, d3, p0, p1, p2, p3, rfl, rfl, rfl, h0, h1, h2, h3⟩ := trodAll_four hA
  obtain ⟨rfl, rfl⟩ := trodVars_none hV
  obtain ⟨x0, h0⟩ := open_users (hval 0 22 v0 rfl rfl) h0
  obtain ⟨x1, hb1, rfl⟩ := open_str (hval 1 9 v1 rfl rfl) h1
  obtain ⟨x2, hb2, rfl⟩ := open_str (hval 2 9 v2 rfl rfl) h2
  obtain ⟨x3, h3⟩ := open_txs (hval 3 23 v3 rfl rfl) h3
  clear hA0 hval0
  refine (credsTurned_any v0 x0 x1 x2 v3 x3 W h0 hb1 hb2 h3).mono fun e W' ⟨he, hb⟩ => ?_
  subst he
  exact ⟨_, rfl, law_post laidOut (by rw [Try.params7]; exact of_decide_eq_true (by kernel_rfl)) rfl (by kernel_rfl) Try.underlying4 hW rfl hb⟩

theorem credsTurned_holds : Rows.CredsTurnedSaid :=
  OpenClaim.holds_of_wide 7 Try.f7 rfl rfl rfl rfl rfl rfl rfl ⟨rfl, rfl, rfl, rfl, rfl⟩ rfl rfl rfl rfl rfl (by kernel_rfl) Try.func7 (by kernel_rfl)
    (of_decide_eq_true (by kernel_rfl)) (by unfold Func.isWrapper; first | (rw [if_pos (by decide +kernel)]; kernel_rfl) | (rw [if_neg (by decide +kernel)]; exact ⟨rfl, rfl⟩))
    (fun os started H enc _ => credsTurned_lifted os started H enc)
end Go.Proofs.Ytnhgkklbjhjggaa
