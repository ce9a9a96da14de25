/- The law matriculalaw11.KvCompacts, where what it reads is of bulk at most 1048576: it returns true; every argument reads as it did. The tables that the rows list hold what the program's text lays (tied). -/
import Derived.Test.YtkdmljijgfejpaaDoorKvLaid
import Derived.Test.YtkdmljijgfejpaaDoorOpen
import Derived.Test.YtkdmljijgfejpaaDoorGKo
import Derived.Test.YtkdmljijgfejpaaDoorKvFc
import Derived.Test.YtkdmljijgfejpaaDoorCards
import Derived.Test.YtkdmljijgfejpaaDoorTie
import Derived.SevenTiedAt
import Derived.OpenShut
import Derived.Deep.DeepHandedRow
import Derived.Deep.DeepWitnessRowRef
namespace Go.Proofs.YtkdmljijgfejpaaDoor
set_option linter.unusedVariables false
set_option linter.unusedSimpArgs false
open Go.ChangeShapes Go.WideShapes Go.ChangeAt Go.RowKit

theorem kvCompacts_reads (os : Os) {H : Type} (enc : TypeId × Value → H) : ∃ places, DataW.whole enc Tryd.prog ((World.doorLaid Tryd.prog 400 os).forCall (fun _ _ => 0) ⟨#[], #[.int .u8 0, .slice none 0 0, .int .u8 0, .slice none 0 0], []⟩).memory Tryd.f7.params.toList Rows.kvCompactsSpec.vars false (#[.int .u8 0, .slice none 0 0, .int .u8 0, .slice none 0 0] : Array Value).toList 8 = some ([.lit (.int .u8 0), .nil, .lit (.int .u8 0), .nil], [], places) :=
  ⟨[], by kernel_rfl⟩
set_option maxRecDepth 100000 in
theorem kvCompactsUpto_lifted (os : Os) (started : os.Started) (H : Type) (enc : TypeId × Value → H) (F : Stop.Interp) :
    ReturnsInHanded {} Tryd.checked os 7 .any ((Rows.OpenSpec.upto Rows.kvCompactsSpec).preRow enc Tryd.prog Tryd.f7 Rows.kvCompactsUptoRow.domain false Rows.kvCompactsUptoRow.laid) (((Rows.OpenSpec.upto Rows.kvCompactsSpec).at F).post enc Tryd.prog Tryd.f7 false true false false) := by
  obtain ⟨places, hx⟩ := kvCompacts_reads os enc
  refine returnsInHanded_of_row (C := Tryd.checked) (s := Rows.OpenSpec.upto Rows.kvCompactsSpec) own started (by kernel_rfl) Tryd.func7
    (witness_row_atRef (enc := enc) (C := Tryd.checked) false (World.doorLaid Tryd.prog 400 os) #[.int .u8 0, .slice none 0 0, .int .u8 0, .slice none 0 0] rfl (by kernel_rfl) (by kernel_rfl) (by kernel_rfl)
      (OpenSpec.preRow_of_cond 8 hx (by kernel_rfl) (fun k hk => by cases hk; kernel_rfl) (by kernel_rfl) (door_met os _))) ?_
  intro W base args ds gs before hval0 hW _ hcond _ hL _ _
  have hval : ∀ (j : Nat) t v, Tryd.f7.params[j]? = some t → args[j]? = some v → Value.okWide Tryd.prog W .any base t v := hval0
  have hW1 : DataW.Whole enc Tryd.prog Tryd.f7.params.toList Rows.kvCompactsSpec.vars false W args.toList ds gs before := hW
  obtain ⟨p, q, hA0, hV, hpq, hfz, hnd⟩ := id hW1
  have hA : DataW.TrodAll enc Tryd.prog W 0 (fun _ => true) true Tryd.f7.params.toList args.toList ds p := hA0
  rw [Tryd.params7] at hA hval
  obtain ⟨v0, vs0, d0, ds0, p0, q0, hargs, rfl, rfl, h0, r0⟩ := trodAll_cons hA
  obtain ⟨v1, vs1, d1, ds1, p1, q1, rfl, rfl, rfl, h1, r1⟩ := trodAll_cons r0
  obtain ⟨v2, vs2, d2, ds2, p2, q2, rfl, rfl, rfl, h2, r2⟩ := trodAll_cons r1
  obtain ⟨v3, vs3, d3, ds3, p3, q3, rfl, rfl, rfl, h3, r3⟩ := trodAll_cons r2
  obtain ⟨rfl, rfl, rfl⟩ := trodAll_nil r3
  obtain ⟨args⟩ := args
  dsimp only at hargs
  subst hargs
  obtain ⟨rfl, rfl⟩ := trodVars_none hV
  have hkb := bulk_bound (hcond _ rfl)
  have hb1 := Nat.le_trans (bulk_part (d := d1) (by simp)) hkb
  obtain ⟨x0, rfl⟩ := open_u8 (hval 0 5 v0 rfl rfl) h0
  obtain ⟨x1, h1, hn1⟩ := open_kopsU (hval 1 45 v1 rfl rfl) h1 hb1
  obtain ⟨x2, rfl⟩ := open_u8 (hval 2 5 v2 rfl rfl) h2
  obtain ⟨x3, h3⟩ := open_bytes (hval 3 23 v3 rfl rfl) h3
  clear hA0 hval0
  refine (kvCompacts_any x0 v1 x1 x2 v3 x3 W (halves_of_laid hL) h1 hn1 h3).mono fun e W' ⟨he, hb⟩ => ?_
  subst he
  exact ⟨_, rfl, law_post laidOut (by rw [Tryd.params7]; exact of_decide_eq_true (by kernel_rfl)) rfl (by kernel_rfl) Tryd.underlying4 hW1 rfl hb⟩

theorem kvCompactsUpto_holds : Rows.KvCompactsUptoSaid :=
  OpenClaim.holds_of_cond 7 Tryd.f7 rfl rfl rfl rfl rfl rfl rfl ⟨rfl, rfl, rfl, rfl, rfl⟩ rfl rfl rfl rfl rfl (by kernel_rfl) Tryd.func7 (by kernel_rfl)
    (of_decide_eq_true (by kernel_rfl)) (by unfold Func.isWrapper; first | (rw [if_pos (by decide +kernel)]; kernel_rfl) | (rw [if_neg (by decide +kernel)]; exact ⟨rfl, rfl⟩))
    (fun os started H enc _ F => by rw [OpenClaim.pre_eq_preRow]; exact kvCompactsUpto_lifted os started H enc F)

theorem kvCompactsUpto_card : Rows.KvCompactsUptoCardSaid :=
  Claim7.holds_tied_plain_at .later [] Rows.kvCompactsUptoCard.laidKinds true Rows.kvCompactsUptoCard.stood.harness Rows.kvCompactsUptoCard.stood.looks
    kvCompactsUpto_holds (fun _ h => by cases h) (by kernel_rfl) (fun _ h => by cases h) kvCompactsUpto_row_tie rfl ⟨rfl, rfl⟩ (by kernel_rfl) rfl
    (fun f fn hf hfn => by
      obtain rfl : f = 7 := Option.some.inj ((show Tryd.prog.funcNamed Rows.kvCompactsUptoRow.func = some 7 by kernel_rfl).symm.trans hf) |>.symm
      obtain rfl : fn = Tryd.f7 := (Option.some.inj (Tryd.func7.symm.trans hfn)).symm
      exact ⟨by kernel_rfl, fun j t ht => by
        rw [Tryd.params7] at ht
        have hm : t ∈ [5, 45, 5, 23] := by simpa using Array.mem_of_getElem? ht
        have hall : ([5, 45, 5, 23].all fun u => !Tryd.prog.wantsStandIn u) = true := by kernel_rfl
        exact (show Tryd.prog.wantsStandIn t = false by simpa using List.all_eq_true.1 hall t hm)⟩)
    (by kernel_rfl)
end Go.Proofs.YtkdmljijgfejpaaDoor
