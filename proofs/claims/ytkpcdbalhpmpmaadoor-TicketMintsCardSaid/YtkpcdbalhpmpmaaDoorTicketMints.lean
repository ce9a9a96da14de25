/- The law matriculalaw12.TicketMints: for every input it returns true; every argument reads as it did. The tables that the rows list hold what the program's text lays (tied). -/
import Derived.Test.YtkpcdbalhpmpmaaDoorTicketLaid
import Derived.Test.YtkpcdbalhpmpmaaDoorTicketO
import Derived.Test.YtkpcdbalhpmpmaaDoorTicketQ
import Derived.Test.YtkpcdbalhpmpmaaDoorTicketR
import Derived.Test.YtkpcdbalhpmpmaaDoorCards
import Derived.Test.YtkpcdbalhpmpmaaDoorTie
import Derived.SevenTiedAt
namespace Go.Proofs.YtkpcdbalhpmpmaaDoor
open Go.ChangeShapes Go.WideShapes Go.ChangeAt Go.RowKit

set_option maxRecDepth 100000 in
theorem ticketMints_lifted (os : Os) (started : os.Started) (H : Type) (enc : TypeId × Value → H) :
    ReturnsInHanded {} Tryd.checked os 7 .any (fun w args => (Rows.ticketMintsSpec.pre enc Tryd.prog Tryd.f7 [] false w args ∧ laidMetH Tryd.prog laid1 w) ∧ sizedMet enc Tryd.prog Tryd.f7 (OpenSpec.ofChange Rows.ticketMintsSpec) false w args)
      (Rows.ticketMintsSpec.post enc Tryd.prog Tryd.f7 false true false false) := by
  refine returnsInHanded_of_change_and (C := Tryd.checked) (X := fun w _ => laidMetH Tryd.prog laid1 w) (fun _ _ _ hh h => h.of_heap hh) own started (by kernel_rfl) Tryd.func7
    (ChangeSpec.witness_shaped (enc := enc) (C := Tryd.checked) (os := os) (X := fun w _ => laidMetH Tryd.prog laid1 w) false (World.doorLaid Tryd.prog 400 os) #[.slice none 0 0, .slice none 0 0, .slice none 0 0, .slice none 0 0] 8 rfl (World.shaped_of_RefB (by kernel_rfl) (by kernel_rfl)) (by kernel_rfl) (by kernel_rfl) (by kernel_rfl) (door_met os _)) ?_
  intro W base args ds gs before hval0 hW _ _ hL _
  have hval : ∀ (j : Nat) t v, Tryd.f7.params[j]? = some t → args[j]? = some v → Value.okWide Tryd.prog W .any base t v := hval0
  obtain ⟨p, q, hA0, hV, hpq, hfz, hnd⟩ := id hW
  have hA : DataW.TrodAll enc Tryd.prog W 0 (fun _ => true) true Tryd.f7.params.toList args.toList ds p := hA0
  rw [Tryd.params7] at hA hval
  obtain ⟨v0, v1, v2, v3, d0, d1, d2, d3, p0, p1, p2, p3, rfl, rfl, rfl, h0, h1, h2, h3⟩ := trodAll_four hA
  obtain ⟨rfl, rfl⟩ := trodVars_none hV
  obtain ⟨x0, h0⟩ := open_u64s (hval 0 32 v0 rfl rfl) h0
  obtain ⟨x1, h1⟩ := open_u64s (hval 1 32 v1 rfl rfl) h1
  obtain ⟨x2, h2⟩ := open_i64s (hval 2 39 v2 rfl rfl) h2
  obtain ⟨x3, h3⟩ := open_bls (hval 3 40 v3 rfl rfl) h3
  clear hA0 hval0
  refine (mints_any v0 x0 v1 x1 v2 x2 v3 x3 W (pres_of_laid hL) h0 h1 h2 h3).mono fun e W' ⟨he, hb⟩ => ?_
  subst he
  exact ⟨_, rfl, law_post laidOut (by rw [Tryd.params7]; exact of_decide_eq_true (by kernel_rfl)) rfl (by kernel_rfl) Tryd.underlying4 hW rfl hb⟩

theorem ticketMints_holds : Rows.TicketMintsSaid :=
  OpenClaim.holds_of_wide 7 Tryd.f7 rfl rfl rfl rfl rfl rfl rfl ⟨rfl, rfl, rfl, rfl, rfl⟩ rfl rfl rfl rfl rfl (by kernel_rfl) Tryd.func7 (by kernel_rfl)
    (of_decide_eq_true (by kernel_rfl)) (by unfold Func.isWrapper; first | (rw [if_pos (by decide +kernel)]; kernel_rfl) | (rw [if_neg (by decide +kernel)]; exact ⟨rfl, rfl⟩))
    (fun os started H enc _ => ticketMints_lifted os started H enc)

theorem ticketMints_card : Rows.TicketMintsCardSaid :=
  Claim7.holds_tied_plain_at .later [] Rows.ticketMintsCard.laidKinds true Rows.ticketMintsCard.stood.harness Rows.ticketMintsCard.stood.looks
    ticketMints_holds (fun _ h => by cases h) (by kernel_rfl) (fun _ h => by cases h) ticketMints_row_tie rfl ⟨rfl, rfl⟩ (by kernel_rfl) rfl
    (fun f fn hf hfn => by
      obtain rfl : f = 7 := Option.some.inj ((show Tryd.prog.funcNamed Rows.ticketMintsRow.func = some 7 by kernel_rfl).symm.trans hf) |>.symm
      obtain rfl : fn = Tryd.f7 := (Option.some.inj (Tryd.func7.symm.trans hfn)).symm
      exact ⟨by kernel_rfl, fun j t ht => by
        rw [Tryd.params7] at ht
        have hm : t ∈ [32, 32, 39, 40] := by simpa using Array.mem_of_getElem? ht
        have hall : ([32, 32, 39, 40].all fun u => !Tryd.prog.wantsStandIn u) = true := by kernel_rfl
        exact (show Tryd.prog.wantsStandIn t = false by simpa using List.all_eq_true.1 hall t hm)⟩)
    (by kernel_rfl)
end Go.Proofs.YtkpcdbalhpmpmaaDoor
