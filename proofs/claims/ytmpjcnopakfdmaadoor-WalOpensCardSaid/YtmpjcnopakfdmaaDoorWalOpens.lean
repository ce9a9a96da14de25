/- The law matriculalaw10.WalOpens: for every input it returns true; every argument reads as it did. The tables that the rows list hold what the program's text lays (tied). -/
import Derived.Test.YtmpjcnopakfdmaaDoorFrLaid
import Derived.Test.YtmpjcnopakfdmaaDoorFrOpen
import Derived.Test.YtmpjcnopakfdmaaDoorWlY
import Derived.Test.YtmpjcnopakfdmaaDoorCards
import Derived.Test.YtmpjcnopakfdmaaDoorTie
import Derived.SevenTiedAt
namespace Go.Proofs.YtmpjcnopakfdmaaDoor
set_option linter.unusedVariables false
set_option linter.unusedSimpArgs false
open Go.ChangeShapes Go.WideShapes Go.ChangeAt Go.RowKit

set_option maxRecDepth 100000 in
theorem walOpens_lifted (os : Os) (started : os.Started) (H : Type) (enc : TypeId × Value → H) :
    ReturnsInHanded {} Tryd.checked os 7 .any (fun w args => (Rows.walOpensSpec.pre enc Tryd.prog Tryd.f7 [] false w args ∧ laidMetH Tryd.prog laid1 w) ∧ sizedMet enc Tryd.prog Tryd.f7 (OpenSpec.ofChange Rows.walOpensSpec) false w args)
      (Rows.walOpensSpec.post enc Tryd.prog Tryd.f7 false true false false) := by
  refine returnsInHanded_of_change_and (C := Tryd.checked) (X := fun w _ => laidMetH Tryd.prog laid1 w) (fun _ _ _ hh h => h.of_heap hh) own started (by kernel_rfl) Tryd.func7
    (ChangeSpec.witness_shaped (enc := enc) (C := Tryd.checked) (os := os) (X := fun w _ => laidMetH Tryd.prog laid1 w) false (World.doorLaid Tryd.prog 400 os) #[.slice none 0 0, .slice none 0 0, .int .u16 0, .bool false, .slice none 0 0] 8 rfl (World.shaped_of_RefB (by kernel_rfl) (by kernel_rfl)) (by kernel_rfl) (by kernel_rfl) (by kernel_rfl) (door_met os _)) ?_
  intro W base args ds gs before hval0 hW _ _ hL _
  have hval : ∀ (j : Nat) t v, Tryd.f7.params[j]? = some t → args[j]? = some v → Value.okWide Tryd.prog W .any base t v := hval0
  obtain ⟨p, q, hA0, hV, hpq, hfz, hnd⟩ := id hW
  have hA : DataW.TrodAll enc Tryd.prog W 0 (fun _ => true) true Tryd.f7.params.toList args.toList ds p := hA0
  rw [Tryd.params7] at hA hval
  obtain ⟨v0, vs0, d0, ds0, p0, q0, hargs, rfl, rfl, h0, r0⟩ := trodAll_cons hA
  obtain ⟨v1, vs1, d1, ds1, p1, q1, rfl, rfl, rfl, h1, r1⟩ := trodAll_cons r0
  obtain ⟨v2, vs2, d2, ds2, p2, q2, rfl, rfl, rfl, h2, r2⟩ := trodAll_cons r1
  obtain ⟨v3, vs3, d3, ds3, p3, q3, rfl, rfl, rfl, h3, r3⟩ := trodAll_cons r2
  obtain ⟨v4, vs4, d4, ds4, p4, q4, rfl, rfl, rfl, h4, r4⟩ := trodAll_cons r3
  obtain ⟨rfl, rfl, rfl⟩ := trodAll_nil r4
  obtain ⟨args⟩ := args
  dsimp only at hargs
  subst hargs
  obtain ⟨rfl, rfl⟩ := trodVars_none hV
  obtain ⟨x0, h0⟩ := open_bytes (hval 0 22 v0 rfl rfl) h0
  obtain ⟨x1, h1, hg1⟩ := open_u32s (hval 1 39 v1 rfl rfl) h1
  obtain ⟨x2, hx2, rfl⟩ := open_u16 (hval 2 36 v2 rfl rfl) h2
  obtain ⟨x3, rfl⟩ := open_bool (hval 3 4 v3 rfl rfl) h3
  obtain ⟨x4, h4⟩ := open_ll (hval 4 23 v4 rfl rfl) h4
  clear hA0 hval0
  refine (walOpens_any v0 x0 v1 x1 x2 x3 v4 x4 W (halves_of_laid hL) h0 h1 hg1 hx2 h4).mono fun e W' ⟨he, hb⟩ => ?_
  subst he
  exact ⟨_, rfl, law_post laidOut (by rw [Tryd.params7]; exact of_decide_eq_true (by kernel_rfl)) rfl (by kernel_rfl) Tryd.underlying4 hW rfl hb⟩

theorem walOpens_holds : Rows.WalOpensSaid :=
  OpenClaim.holds_of_wide 7 Tryd.f7 rfl rfl rfl rfl rfl rfl rfl ⟨rfl, rfl, rfl, rfl, rfl⟩ rfl rfl rfl rfl rfl (by kernel_rfl) Tryd.func7 (by kernel_rfl)
    (of_decide_eq_true (by kernel_rfl)) (by unfold Func.isWrapper; first | (rw [if_pos (by decide +kernel)]; kernel_rfl) | (rw [if_neg (by decide +kernel)]; exact ⟨rfl, rfl⟩))
    (fun os started H enc _ => walOpens_lifted os started H enc)

theorem walOpens_card : Rows.WalOpensCardSaid :=
  Claim7.holds_tied_plain_at .later [] Rows.walOpensCard.laidKinds true Rows.walOpensCard.stood.harness Rows.walOpensCard.stood.looks
    walOpens_holds (fun _ h => by cases h) (by kernel_rfl) (fun _ h => by cases h) walOpens_row_tie rfl ⟨rfl, rfl⟩ (by kernel_rfl) rfl
    (fun f fn hf hfn => by
      obtain rfl : f = 7 := Option.some.inj ((show Tryd.prog.funcNamed Rows.walOpensRow.func = some 7 by kernel_rfl).symm.trans hf) |>.symm
      obtain rfl : fn = Tryd.f7 := (Option.some.inj (Tryd.func7.symm.trans hfn)).symm
      exact ⟨by kernel_rfl, fun j t ht => by
        rw [Tryd.params7] at ht
        have hm : t ∈ [22, 39, 36, 4, 23] := by simpa using Array.mem_of_getElem? ht
        have hall : ([22, 39, 36, 4, 23].all fun u => !Tryd.prog.wantsStandIn u) = true := by kernel_rfl
        exact (show Tryd.prog.wantsStandIn t = false by simpa using List.all_eq_true.1 hall t hm)⟩)
    (by kernel_rfl)
end Go.Proofs.YtmpjcnopakfdmaaDoor
