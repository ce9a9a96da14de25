/- A drawn region whose last operation comes up only behind all other ones: it is walked without it, and that one behind. -/
import Derived.Deep.RegionHeld3
import Derived.StillTail
namespace Go.Proofs.YtmpjcnopakfdmaaDoor
set_option linter.unusedVariables false
set_option linter.unusedSimpArgs false
open Go

/-- the post of a region without its last operation: that one goes, and then what was asked -/
def ThenOp (P : Program) (ops : Array Oper) (n : Nat) (Q : Exit → Act → World → Prop) : Exit → Act → World → Prop
  | .normal, a, w => wpOp P ops Q n (Q .normal) a w
  | .ret, a, w => Q .ret a w
  | .exit i, a, w => Q (.exit i) a w
  | .goto l, a, w => Q (.goto l) a w
  | .panic c, a, w => Q (.panic c) a w
  | .outgrown, a, w => Q .outgrown a w
theorem upon_then {P : Program} {ops : Array Oper} {n : Nat} {Q : Exit → Act → World → Prop} {o : Oper} {a : Act} {K : Act → World → Prop} {r : Result Next} (h : o.upon P a K (ThenOp P ops n Q) r) : o.upon P a K Q r := by
  cases r with
  | ok x w' =>
    cases x <;> simp only [Oper.upon] at h ⊢
    case enter f args => exact Calls.mono h fun e w'' he => by cases e <;> exact he
    all_goals exact h
  | halt x w' => cases x <;> simp only [Oper.upon] at h ⊢ <;> exact h
/-- all edges go back; the last one waits for all; no guards -/
def lastB (ops : Array Oper) : Bool :=
  decide (0 < ops.size) && Region.sinkB .any ops (ops.size - 1) && (List.range ops.size).all fun i => match ops[i]? with | some o => o.guard.isNone && o.after.all (fun e => decide (e.on < i)) | none => false
theorem lastB_spec {ops : Array Oper} (h : lastB ops = true) : 0 < ops.size ∧ Region.sinkB .any ops (ops.size - 1) = true ∧ (∀ (i : Nat) (o : Oper), ops[i]? = some o → o.guard = none ∧ ∀ e ∈ o.after, e.on < i) := by
  unfold lastB at h
  simp only [Bool.and_eq_true, decide_eq_true_eq] at h
  refine ⟨h.1.1, h.1.2, fun i o ho => ?_⟩
  have hi : i < ops.size := (Array.getElem?_eq_some_iff.1 ho).1
  have h2 := List.all_eq_true.1 h.2 i (List.mem_range.2 hi)
  rw [ho] at h2
  simp only [Bool.and_eq_true, Option.isNone_iff_eq_none] at h2
  refine ⟨h2.1, fun e he => ?_⟩
  have h3 := (Array.all_eq_true_iff_forall_mem.1 h2.2) e he
  simpa using h3
theorem getD_push {l : Array Bool} {j : Nat} {d : Bool} (h : j < l.size) : (l.push false).getD j d = l.getD j d := by
  simp [Array.getElem?_push, h, Nat.ne_of_lt h]
theorem getD_pushF {l : Array Bool} (j : Nat) : (l.push false).getD j false = l.getD j false := by
  rcases Nat.lt_trichotomy j l.size with h | h | h
  · exact getD_push h
  · subst h; simp
  · have h1 : l.size + 1 ≤ j := h
    simp [Array.getElem?_eq_none (show (l.push false).size ≤ j by simp; omega), Array.getElem?_eq_none (show l.size ≤ j by omega)]
theorem pop_get {ops : Array Oper} {i : Nat} (h : i < ops.size - 1) : ops.pop[i]? = ops[i]? := by
  rw [Array.getElem?_pop, if_pos h]
theorem pop_lt {ops : Array Oper} {i : Nat} {o : Oper} (h : ops.pop[i]? = some o) : i < ops.size - 1 ∧ ops[i]? = some o := by
  have h1 : i < ops.size - 1 := by have := (Array.getElem?_eq_some_iff.1 h).1; rw [Array.size_pop] at this; exact this
  exact ⟨h1, by rw [← pop_get h1]; exact h⟩
section
variable {P : Program} {ops : Array Oper} {Q : Exit → Act → World → Prop}
theorem ready_pop {l : Array Bool} (hl : l.size = ops.size - 1) {i : Nat} (hi : i < ops.size - 1) : i ∈ Region.ready .any ops (l.push false) ↔ i ∈ Region.ready .any ops.pop l := by
  rw [mem_ready, mem_ready, pop_get hi, getD_push (by omega)]
  constructor
  · rintro ⟨h0, o, ho, h⟩; exact ⟨h0, o, ho, fun e he hb => by rw [← getD_pushF]; exact h e he hb⟩
  · rintro ⟨h0, o, ho, h⟩; exact ⟨h0, o, ho, fun e he hb => by rw [getD_pushF]; exact h e he hb⟩
theorem listed_all (hf : ∀ (i : Nat) (o : Oper), ops[i]? = some o → o.guard = none ∧ ∀ e ∈ o.after, e.on < i) {l : Array Bool} (hl : l.size = ops.size - 1) (h : Region.ready .any ops.pop l = []) : ∀ d i, i < d → i < ops.size - 1 → l.getD i false = true := by
  intro d
  induction d with
  | zero => intro i hi; omega
  | succ d ih =>
    intro i hi hin
    cases hq : l.getD i false with
    | true => rfl
    | false =>
      exfalso
      have hs : i < l.size := by omega
      have h1 : i ∈ Region.ready .any ops.pop l := by
        rw [mem_ready, pop_get hin]
        have hio : i < ops.size := by omega
        refine ⟨getD_in hs hq, ops[i], Array.getElem?_eq_getElem hio, fun e he _ => ?_⟩
        have := (hf i _ (Array.getElem?_eq_getElem hio)).2 e he
        exact ih e.on (by omega) (by omega)
      rw [h] at h1; cases h1
theorem last_ready (h0 : 0 < ops.size) (hf : ∀ (i : Nat) (o : Oper), ops[i]? = some o → o.guard = none ∧ ∀ e ∈ o.after, e.on < i) {l : Array Bool} (hl : l.size = ops.size - 1) (h : Region.ready .any ops.pop l = []) : ops.size - 1 ∈ Region.ready .any ops (l.push false) := by
  have hio : ops.size - 1 < ops.size := by omega
  rw [mem_ready]
  refine ⟨by rw [← hl]; simp, ops[ops.size - 1], Array.getElem?_eq_getElem hio, fun e he _ => ?_⟩
  have := (hf _ _ (Array.getElem?_eq_getElem hio)).2 e he
  rw [getD_pushF]
  exact listed_all hf hl h (e.on + 1) e.on (by omega) this
theorem wpAny_last (h0 : 0 < ops.size) (hs : Region.sinkB .any ops (ops.size - 1) = true) (hc : Region.chainB .any ops (ops.size - 1) = true) (hf : ∀ (i : Nat) (o : Oper), ops[i]? = some o → o.guard = none ∧ ∀ e ∈ o.after, e.on < i) :
    ∀ (fuel : Nat) (l : Array Bool) (a : Act) (w : World), HeadInv .any ops (ops.size - 1) (l.push false) → l.size = ops.size - 1 → wpAny P .any ops.pop (ThenOp P ops (ops.size - 1) Q) fuel l a w → wpAny P .any ops Q (fuel + 1) (l.push false) a w := by
  have hend : ∀ (fuel : Nat) (l : Array Bool) (a : Act) (w : World), l.size = ops.size - 1 → Region.ready .any ops.pop l = [] → wpOp P ops Q (ops.size - 1) (Q .normal) a w → wpOp P ops Q (ops.size - 1) (wpAny P .any ops Q fuel ((l.push false).setIfInBounds (ops.size - 1) true)) a w := by
    intro fuel l a w hl hr h
    have hnone : Region.ready .any ops ((l.push false).setIfInBounds (ops.size - 1) true) = [] := by
      rw [List.eq_nil_iff_forall_not_mem]
      intro i hi
      obtain ⟨h1, o, ho, -⟩ := mem_ready.1 hi
      have hi2 : i < ops.size := (Array.getElem?_eq_some_iff.1 ho).1
      by_cases hin : i = ops.size - 1
      · subst hin
        rw [← hl] at h1
        simp at h1
      · rw [getD_set_ne true (Ne.symm hin), getD_push (by omega)] at h1
        have := listed_all hf hl hr (i + 1) i (by omega) (by omega)
        rw [getD_both h1] at this; cases this
    refine wpOp_mono (fun a' w' h' => ?_) h
    cases fuel with
    | zero => exact ⟨hnone, h'⟩
    | succ f => exact ⟨fun _ => h', by rw [hnone]; simp⟩
  intro fuel
  induction fuel with
  | zero =>
    intro l a w inv hl h
    have hz := last_ready h0 hf hl h.1
    refine ⟨fun h1 => (by rw [h1] at hz; cases hz), fun i hi => ?_⟩
    have hi2 : i < ops.size := by obtain ⟨-, o, ho, -⟩ := mem_ready.1 hi; exact (Array.getElem?_eq_some_iff.1 ho).1
    by_cases hin : i = ops.size - 1
    · subst hin; exact hend _ l a w hl h.1 h.2
    · have := (ready_pop hl (by omega)).1 hi
      rw [h.1] at this; cases this
  | succ fuel ih =>
    intro l a w inv hl h
    refine ⟨fun h1 => ?_, fun i hi => ?_⟩
    · by_cases hr : Region.ready .any ops.pop l = []
      · have hz := last_ready h0 hf hl hr; rw [h1] at hz; cases hz
      · obtain ⟨i, hi⟩ := List.exists_mem_of_ne_nil _ hr
        have hin : i < ops.size - 1 := by obtain ⟨-, o, ho, -⟩ := mem_ready.1 hi; exact (pop_lt ho).1
        have := (ready_pop hl hin).2 hi
        rw [h1] at this; cases this
    have hi2 : i < ops.size := by obtain ⟨-, o, ho, -⟩ := mem_ready.1 hi; exact (Array.getElem?_eq_some_iff.1 ho).1
    by_cases hin : i = ops.size - 1
    · subst hin
      have hr : Region.ready .any ops.pop l = [] := by
        rw [List.eq_nil_iff_forall_not_mem]
        intro j hj
        have hjn : j < ops.size - 1 := by obtain ⟨-, o, ho, -⟩ := mem_ready.1 hj; exact (pop_lt ho).1
        have hj2 := (mem_ready.1 ((ready_pop hl hjn).2 hj)).1
        exact tail_waits hs hc (by omega) inv _ j rfl hjn hj2 _ (Nat.le_refl _) hi
      exact hend _ l a w hl hr (h.1 hr)
    · have hi3 : i < ops.size - 1 := by omega
      have h2 := h.2 i ((ready_pop hl hi3).1 hi)
      have hset : (l.push false).setIfInBounds i true = (l.setIfInBounds i true).push false := by
        apply Array.ext_getElem?
        intro j
        rw [Array.getElem?_setIfInBounds, Array.getElem?_push, Array.getElem?_push, Array.getElem?_setIfInBounds, Array.size_push, Array.size_setIfInBounds]
        by_cases hij : i = j
        · subst hij
          rw [if_pos rfl, if_pos (by omega), if_neg (by omega), if_pos rfl, if_pos (by omega)]
        · rw [if_neg hij, if_neg hij]
      have inv2 := inv.set hi hi3
      rw [hset] at inv2
      unfold wpOp at h2 ⊢
      have hio : ops[i]? = some ops[i] := Array.getElem?_eq_getElem hi2
      rw [pop_get hi3, hio] at h2
      rw [hio]
      have hg := (hf i _ hio).1
      simp only [Region.wanted, hg, if_true] at h2 ⊢
      have hK : ∀ a' w', wpAny P .any ops.pop (ThenOp P ops (ops.size - 1) Q) fuel (l.setIfInBounds i true) a' w' → wpAny P .any ops Q (fuel + 1) ((l.push false).setIfInBounds i true) a' w' := fun a' w' h' => by
        rw [hset]; exact ih _ a' w' inv2 (by simp [hl]) h'
      rcases h2 with h2 | ⟨h2, h3⟩
      · exact .inl (Oper.wp_mono hK (upon_then h2))
      · exact .inr ⟨h2, h3⟩
/-- the beginning -/
theorem wp_region_last {S : World → Prop} {id : Nat} {a : Act} {w : World} (hm : P.follows .mixedOrders = true) (hb : lastB ops = true) (hc : Region.chainB .any ops (ops.size - 1) = true) (hS : S w.drew)
    (h : S w.drew → wpAnyH P .any ops.pop (ThenOp P ops (ops.size - 1) Q) S ops.pop.size (Array.replicate ops.pop.size false) a w.drew) : (Code.region id ops true).wp P Q a w := by
  obtain ⟨h0, hs, hf⟩ := lastB_spec hb
  refine wp_region_any hm ?_
  have h1 := wpAny_of_held _ _ _ _ (h hS)
  have hp : (Array.replicate ops.size false) = (Array.replicate ops.pop.size false).push false := by
    rw [Array.size_pop, ← Array.replicate_succ]; congr 1; omega
  rw [hp]
  have hsz : ops.size = ops.pop.size + 1 := by rw [Array.size_pop]; omega
  rw [hsz]
  refine wpAny_last h0 hs hc hf _ _ a _ ⟨?_, fun j oj hj hl => ?_, fun t ht htl => ?_⟩ (by simp) h1
  · rw [← hp]; simp
  · rw [← hp, getD_replicate_false] at hl; cases hl
  · rw [← hp]; simp [htl]
/-- as wp_region_last, for the last two operations -/
theorem wp_region_last2 {S : World → Prop} {id : Nat} {a : Act} {w : World} (hm : P.follows .mixedOrders = true) (hb : lastB ops = true) (hc : Region.chainB .any ops (ops.size - 1) = true) (hb2 : lastB ops.pop = true) (hc2 : Region.chainB .any ops.pop (ops.pop.size - 1) = true) (hS : S w.drew)
    (h : S w.drew → wpAnyH P .any ops.pop.pop (ThenOp P ops.pop (ops.pop.size - 1) (ThenOp P ops (ops.size - 1) Q)) S ops.pop.pop.size (Array.replicate ops.pop.pop.size false) a w.drew) : (Code.region id ops true).wp P Q a w := by
  obtain ⟨h0, hs, hf⟩ := lastB_spec hb
  obtain ⟨h02, hs2, hf2⟩ := lastB_spec hb2
  refine wp_region_any hm ?_
  have h1 := wpAny_of_held _ _ _ _ (h hS)
  have key : ∀ o : Array Oper, 0 < o.size → (Array.replicate o.size false) = (Array.replicate o.pop.size false).push false ∧ HeadInv .any o (o.size - 1) ((Array.replicate o.pop.size false).push false) := fun o ho => by
    have hp : (Array.replicate o.size false) = (Array.replicate o.pop.size false).push false := by
      rw [Array.size_pop, ← Array.replicate_succ]; congr 1; omega
    refine ⟨hp, ?_, fun j oj hj hl => ?_, fun t ht htl => ?_⟩
    · rw [← hp]; simp
    · rw [← hp, getD_replicate_false] at hl; cases hl
    · rw [← hp]; simp [htl]
  have h2 := wpAny_last h02 hs2 hc2 hf2 _ _ a _ (key _ h02).2 (by simp) h1
  rw [← (key _ h02).1] at h2
  have h3 := wpAny_last h0 hs hc hf _ _ a _ (key _ h0).2 (by simp) h2
  rw [← (key _ h0).1] at h3
  have e1 : ops.pop.pop.size + 1 + 1 = ops.size := by rw [Array.size_pop] at h02 ⊢; rw [Array.size_pop]; omega
  rw [e1] at h3
  exact h3
/-- the operation that was split off -/
theorem then_last {n : Nat} {o : Oper} {a : Act} {w : World} (ho : ops[n]? = some o) (h : ∀ K : Act → World → Prop, Shut (∀ a w, Q .normal a w → K a w) → if Region.wanted o (yielded ops a.tmps) = true then Oper.wp P o a w K Q else K (a.put o.dst undef) w) : ThenOp P ops n Q .normal a w :=
  wpOp_step ho (fun K hK => h K hK)
end
end Go.Proofs.YtmpjcnopakfdmaaDoor
