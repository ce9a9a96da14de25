/- The law matriculalaw15.ExpirySweeps: for every input it returns true; every argument reads as it did. The tables that the rows list hold what the program's text lays (tied). -/
import Derived.Test.YtmdepmohfnficaaDoorTrLaid
import Derived.Test.YtmdepmohfnficaaDoorFxQ
import Derived.Test.YtmdepmohfnficaaDoorCards
import Derived.Test.YtmdepmohfnficaaDoorTie
import Derived.SevenTiedAt
namespace Go.Proofs.YtmdepmohfnficaaDoor
set_option linter.unusedVariables false
set_option linter.unusedSimpArgs false
open Go.ChangeShapes Go.WideShapes Go.ChangeAt Go.RowKit

set_option maxRecDepth 100000 in
theorem expirySweeps_lifted (os : Os) (started : os.Started) (H : Type) (enc : TypeId × Value → H) :
    ReturnsInHanded {} Tryd.checked os 5 .any (fun w args => (Rows.expirySweepsSpec.pre enc Tryd.prog Tryd.f5 [] false w args ∧ laidMetH Tryd.prog laid1 w) ∧ sizedMet enc Tryd.prog Tryd.f5 (OpenSpec.ofChange Rows.expirySweepsSpec) false w args)
      (Rows.expirySweepsSpec.post enc Tryd.prog Tryd.f5 false true false false) := by
  refine returnsInHanded_of_change_and (C := Tryd.checked) (X := fun w _ => laidMetH Tryd.prog laid1 w) (fun _ _ _ hh h => h.of_heap hh) own started (by kernel_rfl) Tryd.func5
    (ChangeSpec.witness_shaped (enc := enc) (C := Tryd.checked) (os := os) (X := fun w _ => laidMetH Tryd.prog laid1 w) false (World.doorLaid Tryd.prog 400 os) #[.slice none 0 0, .agg #[.int .i64 0, .int .i64 0, .int .i64 0, .int .i64 0, .int .i64 0, .int .i64 0, .int .i64 0, .int .i64 0, .int .i64 0, .int .i64 0, .int .i64 0, .int .i64 0, .int .i64 0, .int .i64 0, .int .i64 0, .int .i64 0, .int .i64 0, .int .i64 0, .int .i64 0, .int .i64 0, .int .i64 0], .int .i64 0, .string ⟨#[]⟩] 8 rfl (World.shaped_of_RefB (by kernel_rfl) (by kernel_rfl)) (by kernel_rfl) (by kernel_rfl) (by kernel_rfl) (door_met os _)) ?_
  intro W base args ds gs before hval0 hW _ _ hL _
  have hval : ∀ (j : Nat) t v, Tryd.f5.params[j]? = some t → args[j]? = some v → Value.okWide Tryd.prog W .any base t v := hval0
  obtain ⟨p, q, hA0, hV, hpq, hfz, hnd⟩ := id hW
  have hA : DataW.TrodAll enc Tryd.prog W 0 (fun _ => true) true Tryd.f5.params.toList args.toList ds p := hA0
  rw [Tryd.params5] at hA hval
  obtain ⟨v0, v1, v2, v3, d0, d1, d2, d3, p0, p1, p2, p3, rfl, rfl, rfl, h0, h1, h2, h3⟩ := trodAll_four hA
  obtain ⟨rfl, rfl⟩ := trodVars_none hV
  obtain ⟨x0, h0⟩ := open_recs (hval 0 22 v0 rfl rfl) h0
  obtain ⟨x1, rfl⟩ := open_pol (hval 1 25 v1 rfl rfl)
  obtain ⟨x2, hl2, hh2, rfl⟩ := open_i64 (hval 2 3 v2 rfl rfl) h2
  obtain ⟨x3, hb3, rfl⟩ := open_str (hval 3 9 v3 rfl rfl) h3
  clear hA0 hval0
  refine (expirySweeps_any v0 x0 x1 x2 x3 W (pres_of_laid hL) h0).mono fun e W' ⟨he, hb⟩ => ?_
  subst he
  exact ⟨_, rfl, law_post laidOut (by rw [Tryd.params5]; exact of_decide_eq_true (by kernel_rfl)) rfl (by kernel_rfl) Tryd.underlying4 hW rfl hb⟩

theorem expirySweeps_holds : Rows.ExpirySweepsSaid :=
  OpenClaim.holds_of_wide 5 Tryd.f5 rfl rfl rfl rfl rfl rfl rfl ⟨rfl, rfl, rfl, rfl, rfl⟩ rfl rfl rfl rfl rfl (by kernel_rfl) Tryd.func5 (by kernel_rfl)
    (of_decide_eq_true (by kernel_rfl)) (by unfold Func.isWrapper; first | (rw [if_pos (by decide +kernel)]; kernel_rfl) | (rw [if_neg (by decide +kernel)]; exact ⟨rfl, rfl⟩))
    (fun os started H enc _ => expirySweeps_lifted os started H enc)

theorem expirySweeps_card : Rows.ExpirySweepsCardSaid :=
  Claim7.holds_tied_plain_at .later [] Rows.expirySweepsCard.laidKinds true Rows.expirySweepsCard.stood.harness Rows.expirySweepsCard.stood.looks
    expirySweeps_holds (fun _ h => by cases h) (by kernel_rfl) (fun _ h => by cases h) expirySweeps_row_tie rfl ⟨rfl, rfl⟩ (by kernel_rfl) rfl
    (fun f fn hf hfn => by
      obtain rfl : f = 5 := Option.some.inj ((show Tryd.prog.funcNamed Rows.expirySweepsRow.func = some 5 by kernel_rfl).symm.trans hf) |>.symm
      obtain rfl : fn = Tryd.f5 := (Option.some.inj (Tryd.func5.symm.trans hfn)).symm
      exact ⟨by kernel_rfl, fun j t ht => by
        rw [Tryd.params5] at ht
        have hm : t ∈ [22, 25, 3, 9] := by simpa using Array.mem_of_getElem? ht
        have hall : ([22, 25, 3, 9].all fun u => !Tryd.prog.wantsStandIn u) = true := by kernel_rfl
        exact (show Tryd.prog.wantsStandIn t = false by simpa using List.all_eq_true.1 hall t hm)⟩)
    (by kernel_rfl)
end Go.Proofs.YtmdepmohfnficaaDoor
