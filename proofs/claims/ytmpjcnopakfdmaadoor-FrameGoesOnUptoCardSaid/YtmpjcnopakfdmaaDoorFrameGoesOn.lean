/- The law matriculalaw09.FrameGoesOn, where what it reads is of bulk at most 1048576: it returns true; every argument reads as it did. The tables that the rows list hold what the program's text lays (tied). -/
import Derived.Test.YtmpjcnopakfdmaaDoorFrLaid
import Derived.Test.YtmpjcnopakfdmaaDoorFrUpto
import Derived.Test.YtmpjcnopakfdmaaDoorFrM
import Derived.Test.YtmpjcnopakfdmaaDoorCards
import Derived.Test.YtmpjcnopakfdmaaDoorTie
import Derived.SevenTiedAt
import Derived.OpenShut
import Derived.Deep.DeepHandedRow
import Derived.Deep.DeepWitnessRowRef
namespace Go.Proofs.YtmpjcnopakfdmaaDoor
set_option linter.unusedVariables false
set_option linter.unusedSimpArgs false
open Go.ChangeShapes Go.WideShapes Go.ChangeAt Go.RowKit

theorem frameGoesOn_reads (os : Os) {H : Type} (enc : TypeId × Value → H) : ∃ places, DataW.whole enc Tryd.prog ((World.doorLaid Tryd.prog 400 os).forCall (fun _ _ => 0) ⟨#[], #[.slice none 0 0, .slice none 0 0], []⟩).memory Tryd.f6.params.toList Rows.frameGoesOnSpec.vars false (#[.slice none 0 0, .slice none 0 0] : Array Value).toList 8 = some ([.nil, .nil], [], places) :=
  ⟨[], by kernel_rfl⟩
set_option maxRecDepth 100000 in
theorem frameGoesOnUpto_lifted (os : Os) (started : os.Started) (H : Type) (enc : TypeId × Value → H) (F : Stop.Interp) :
    ReturnsInHanded {} Tryd.checked os 6 .any ((Rows.OpenSpec.upto Rows.frameGoesOnSpec).preRow enc Tryd.prog Tryd.f6 Rows.frameGoesOnUptoRow.domain false Rows.frameGoesOnUptoRow.laid) (((Rows.OpenSpec.upto Rows.frameGoesOnSpec).at F).post enc Tryd.prog Tryd.f6 false true false false) := by
  obtain ⟨places, hx⟩ := frameGoesOn_reads os enc
  refine returnsInHanded_of_row (C := Tryd.checked) (s := Rows.OpenSpec.upto Rows.frameGoesOnSpec) own started (by kernel_rfl) Tryd.func6
    (witness_row_atRef (enc := enc) (C := Tryd.checked) false (World.doorLaid Tryd.prog 400 os) #[.slice none 0 0, .slice none 0 0] rfl (by kernel_rfl) (by kernel_rfl) (by kernel_rfl)
      (OpenSpec.preRow_of_cond 8 hx (by kernel_rfl) (fun k hk => by cases hk; kernel_rfl) (by kernel_rfl) (door_met os _))) ?_
  intro W base args ds gs before hval0 hW _ hcond _ hL _ _
  have hval : ∀ (j : Nat) t v, Tryd.f6.params[j]? = some t → args[j]? = some v → Value.okWide Tryd.prog W .any base t v := hval0
  have hW1 : DataW.Whole enc Tryd.prog Tryd.f6.params.toList Rows.frameGoesOnSpec.vars false W args.toList ds gs before := hW
  obtain ⟨p, q, hA0, hV, hpq, hfz, hnd⟩ := id hW1
  have hA : DataW.TrodAll enc Tryd.prog W 0 (fun _ => true) true Tryd.f6.params.toList args.toList ds p := hA0
  rw [Tryd.params6] at hA hval
  obtain ⟨v0, v1, d0, d1, p0, p1, rfl, rfl, rfl, h0, h1⟩ := trodAll_two hA
  obtain ⟨rfl, rfl⟩ := trodVars_none hV
  have hkb := bulk_bound (hcond _ rfl)
  have hb1 := Nat.le_trans (bulk_part (d := d1) (by simp)) hkb
  obtain ⟨x0, h0⟩ := open_bytes (hval 0 22 v0 rfl rfl) h0
  obtain ⟨x1, h1, hn1⟩ := open_llU (hval 1 23 v1 rfl rfl) h1 hb1
  clear hA0 hval0
  refine (frameGoesOn_any v0 x0 v1 x1 W (halves_of_laid hL) h0 h1 hn1).mono fun e W' ⟨he, hb⟩ => ?_
  subst he
  exact ⟨_, rfl, law_post laidOut (by rw [Tryd.params6]; exact of_decide_eq_true (by kernel_rfl)) rfl (by kernel_rfl) Tryd.underlying4 hW1 rfl hb⟩

theorem frameGoesOnUpto_holds : Rows.FrameGoesOnUptoSaid :=
  OpenClaim.holds_of_cond 6 Tryd.f6 rfl rfl rfl rfl rfl rfl rfl ⟨rfl, rfl, rfl, rfl, rfl⟩ rfl rfl rfl rfl rfl (by kernel_rfl) Tryd.func6 (by kernel_rfl)
    (of_decide_eq_true (by kernel_rfl)) (by unfold Func.isWrapper; first | (rw [if_pos (by decide +kernel)]; kernel_rfl) | (rw [if_neg (by decide +kernel)]; exact ⟨rfl, rfl⟩))
    (fun os started H enc _ F => by rw [OpenClaim.pre_eq_preRow]; exact frameGoesOnUpto_lifted os started H enc F)

theorem frameGoesOnUpto_card : Rows.FrameGoesOnUptoCardSaid :=
  Claim7.holds_tied_plain_at .later [] Rows.frameGoesOnUptoCard.laidKinds true Rows.frameGoesOnUptoCard.stood.harness Rows.frameGoesOnUptoCard.stood.looks
    frameGoesOnUpto_holds (fun _ h => by cases h) (by kernel_rfl) (fun _ h => by cases h) frameGoesOnUpto_row_tie rfl ⟨rfl, rfl⟩ (by kernel_rfl) rfl
    (fun f fn hf hfn => by
      obtain rfl : f = 6 := Option.some.inj ((show Tryd.prog.funcNamed Rows.frameGoesOnUptoRow.func = some 6 by kernel_rfl).symm.trans hf) |>.symm
      obtain rfl : fn = Tryd.f6 := (Option.some.inj (Tryd.func6.symm.trans hfn)).symm
      exact ⟨by kernel_rfl, fun j t ht => by
        rw [Tryd.params6] at ht
        have hm : t ∈ [22, 23] := by simpa using Array.mem_of_getElem? ht
        have hall : ([22, 23].all fun u => !Tryd.prog.wantsStandIn u) = true := by kernel_rfl
        exact (show Tryd.prog.wantsStandIn t = false by simpa using List.all_eq_true.1 hall t hm)⟩)
    (by kernel_rfl)
end Go.Proofs.YtmpjcnopakfdmaaDoor
