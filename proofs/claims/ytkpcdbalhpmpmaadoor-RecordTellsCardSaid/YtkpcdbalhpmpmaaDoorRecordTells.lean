/- The law matriculalaw13.RecordTells: for every input it returns true; every argument reads as it did. The tables that the rows list hold what the program's text lays (tied). -/
import Derived.Test.YtkpcdbalhpmpmaaDoorTicketLaid
import Derived.Test.YtkpcdbalhpmpmaaDoorRecT
import Derived.Test.YtkpcdbalhpmpmaaDoorCards
import Derived.Test.YtkpcdbalhpmpmaaDoorTie
import Derived.SevenTiedAt
namespace Go.Proofs.YtkpcdbalhpmpmaaDoor
open Go.ChangeShapes Go.WideShapes Go.ChangeAt Go.RowKit

set_option maxRecDepth 100000 in
theorem recordTells_lifted (os : Os) (started : os.Started) (H : Type) (enc : TypeId × Value → H) :
    ReturnsInHanded {} Tryd.checked os 8 .any (fun w args => (Rows.recordTellsSpec.pre enc Tryd.prog Tryd.f8 [] false w args ∧ laidMetH Tryd.prog laid1 w) ∧ sizedMet enc Tryd.prog Tryd.f8 (OpenSpec.ofChange Rows.recordTellsSpec) false w args)
      (Rows.recordTellsSpec.post enc Tryd.prog Tryd.f8 false true false false) := by
  refine returnsInHanded_of_change_and (C := Tryd.checked) (X := fun w _ => laidMetH Tryd.prog laid1 w) (fun _ _ _ hh h => h.of_heap hh) own started (by kernel_rfl) Tryd.func8
    (ChangeSpec.witness_shaped (enc := enc) (C := Tryd.checked) (os := os) (X := fun w _ => laidMetH Tryd.prog laid1 w) false (World.doorLaid Tryd.prog 400 os) #[.agg #[.int .i64 0, .string ⟨#[]⟩, .string ⟨#[]⟩, .string ⟨#[]⟩, .string ⟨#[]⟩, .string ⟨#[]⟩, .int .i64 0, .int .i64 0, .int .i64 0, .bool false], .int .i64 0, .int .i64 0, .string ⟨#[]⟩, .string ⟨#[]⟩] 8 rfl (World.shaped_of_RefB (by kernel_rfl) (by kernel_rfl)) (by kernel_rfl) (by kernel_rfl) (by kernel_rfl) (door_met os _)) ?_
  intro W base args ds gs before hval0 hW _ _ hL _
  have hval : ∀ (j : Nat) t v, Tryd.f8.params[j]? = some t → args[j]? = some v → Value.okWide Tryd.prog W .any base t v := hval0
  obtain ⟨p, q, hA0, hV, hpq, hfz, hnd⟩ := id hW
  have hA : DataW.TrodAll enc Tryd.prog W 0 (fun _ => true) true Tryd.f8.params.toList args.toList ds p := hA0
  rw [Tryd.params8] at hA hval
  obtain ⟨v0, vs0, d0, ds0, p0, q0, hargs, rfl, rfl, h0, r0⟩ := trodAll_cons hA
  obtain ⟨v1, vs1, d1, ds1, p1, q1, rfl, rfl, rfl, h1, r1⟩ := trodAll_cons r0
  obtain ⟨v2, vs2, d2, ds2, p2, q2, rfl, rfl, rfl, h2, r2⟩ := trodAll_cons r1
  obtain ⟨v3, vs3, d3, ds3, p3, q3, rfl, rfl, rfl, h3, r3⟩ := trodAll_cons r2
  obtain ⟨v4, vs4, d4, ds4, p4, q4, rfl, rfl, rfl, h4, r4⟩ := trodAll_cons r3
  obtain ⟨rfl, rfl, rfl⟩ := trodAll_nil r4
  obtain ⟨args⟩ := args
  dsimp only at hargs
  subst hargs
  obtain ⟨rfl, rfl⟩ := trodVars_none hV
  obtain ⟨x0, hf0, rfl⟩ := open_rec (hval 0 50 v0 rfl rfl)
  obtain ⟨x1, hl1, hh1, rfl⟩ := open_i64 (hval 1 3 v1 rfl rfl) h1
  obtain ⟨x2, hl2, hh2, rfl⟩ := open_i64 (hval 2 3 v2 rfl rfl) h2
  obtain ⟨x3, hb3, rfl⟩ := open_str (hval 3 9 v3 rfl rfl) h3
  obtain ⟨x4, hb4, rfl⟩ := open_str (hval 4 9 v4 rfl rfl) h4
  clear hA0 hval0
  refine (recTells_any x0 x1 x2 x3 x4 W (pres_of_laid hL) hf0 hl1 hh1 hl2 hh2 hb3 hb4).mono fun e W' ⟨he, hb⟩ => ?_
  subst he
  exact ⟨_, rfl, law_post laidOut (by rw [Tryd.params8]; exact of_decide_eq_true (by kernel_rfl)) rfl (by kernel_rfl) Tryd.underlying4 hW rfl hb⟩

theorem recordTells_holds : Rows.RecordTellsSaid :=
  OpenClaim.holds_of_wide 8 Tryd.f8 rfl rfl rfl rfl rfl rfl rfl ⟨rfl, rfl, rfl, rfl, rfl⟩ rfl rfl rfl rfl rfl (by kernel_rfl) Tryd.func8 (by kernel_rfl)
    (of_decide_eq_true (by kernel_rfl)) (by unfold Func.isWrapper; first | (rw [if_pos (by decide +kernel)]; kernel_rfl) | (rw [if_neg (by decide +kernel)]; exact ⟨rfl, rfl⟩))
    (fun os started H enc _ => recordTells_lifted os started H enc)

theorem recordTells_card : Rows.RecordTellsCardSaid :=
  Claim7.holds_tied_plain_at .later [] Rows.recordTellsCard.laidKinds true Rows.recordTellsCard.stood.harness Rows.recordTellsCard.stood.looks
    recordTells_holds (fun _ h => by cases h) (by kernel_rfl) (fun _ h => by cases h) recordTells_row_tie rfl ⟨rfl, rfl⟩ (by kernel_rfl) rfl
    (fun f fn hf hfn => by
      obtain rfl : f = 8 := Option.some.inj ((show Tryd.prog.funcNamed Rows.recordTellsRow.func = some 8 by kernel_rfl).symm.trans hf) |>.symm
      obtain rfl : fn = Tryd.f8 := (Option.some.inj (Tryd.func8.symm.trans hfn)).symm
      exact ⟨by kernel_rfl, fun j t ht => by
        rw [Tryd.params8] at ht
        have hm : t ∈ [50, 3, 3, 9, 9] := by simpa using Array.mem_of_getElem? ht
        have hall : ([50, 3, 3, 9, 9].all fun u => !Tryd.prog.wantsStandIn u) = true := by kernel_rfl
        exact (show Tryd.prog.wantsStandIn t = false by simpa using List.all_eq_true.1 hall t hm)⟩)
    (by kernel_rfl)
end Go.Proofs.YtkpcdbalhpmpmaaDoor
