/- A range over a function whose iterator keeps its state in a cell of its own (block C): the law for the caller. -/
import Derived.Test.YtkdmljijgfejpaaDoorMem
import Derived.RangeFuncNested
import Derived.RangeFuncBound
import Derived.RangeFuncCalls
import Derived.RangeFuncLeaves
namespace Go.Proofs.YtkdmljijgfejpaaDoor
set_option linter.unusedVariables false
set_option linter.unusedSimpArgs false
open Go.RowKit

theorem Chg.putObj {p : Nat → Prop} {a w : World} (h : Chg p a w) {l : Nat} (hp : p l) (o : Obj) : Chg p a (w.putObj l o) :=
  h.grown (grownBy_putObj' w l o) fun k e _ => by cases e; exact hp

/-- the iterator's word: it turns block C alone, and lays new ones; it asks of each round that nothing turn but blocks of M -/
def SeqCell {α : Type} (F : Fence) (n : Nat) (P : Program) (g : Nat) (lb : Array Value) (enc : α → Value) (C : Nat) (M : Nat → Prop) (Px : Nat → List α → α → World → Prop) (S : List α → Prop) (w : World) : Prop :=
  ∀ (l : Nat) (J : List α → World → Prop) (W : World), Ext w W → (∀ s A B, J s A → Chg (fun k => k = C) A B → J s B) →
    (∀ pre x W1, J pre W1 → Px W.heap.size pre x W1 → YieldAt F (n - 1) P l #[enc x] W1 fun e W' => e = .returned (.bool true) ∧ J (pre ++ [x]) W' ∧ Chg M W1 W') →
    J [] W → CallsIn F n P g (#[.func (.yield l) #[] #[]] ++ lb) W fun e W' => (∃ v, e = .returned v) ∧ ∃ xs, S xs ∧ J xs W'

/-- how a round's body may be left: off its end -/
def cellPost {α : Type} (M : Nat → Prop) (I : List α → World → Prop) (xs : List α) (W : World) : Exit → Act → World → Prop
  | .normal, _, W' => KeepsOthers W W' ∧ Chg M W W' ∧ I xs W'
  | _, _, _ => False

variable {F : Fence} {n : Nat} {P : Program}
theorem wpIn_rangeFunc_cell {α : Type} {g : Operand} {ps : Array Tmp} {assign body : Code} {Q : Exit → Act → World → Prop} {a : Act} {w : World}
    (hro : F.round = none) (h1 : 1 ≤ n) {gf : Nat} {lb : Array Value} (hg : a.eval g = .func (.func gf) #[] lb) (hFg : F.fn gf) (eg : ∀ args w, (callFunc gf args).run P w = .ok (.enter gf args) w)
    {enc : α → Value} {C : Nat} (hC : C < w.heap.size) {M : Nat → Prop} {Px : Nat → List α → α → World → Prop} {S : List α → Prop} (hseq : SeqCell F (n - 1) P gf lb enc C M Px S w)
    (hM0 : M w.heap.size) (hM1 : M (w.heap.size + 1)) (hps : ps.size = 1)
    (I : List α → World → Prop) (hI : ∀ s A B, I s A → Chg (fun k => k = C ∨ k = w.heap.size ∨ k = w.heap.size + 1) A B → I s B) (h0 : I [] w) (a₁ : α → Act)
    (hassign : ∀ (l : Nat) (x : α) (W : World) (K : Act → World → Prop), K (a₁ x) W →
      assign.wpIn (F.inRound l) (n - 1 - 1) P (Exit.then K (fun _ _ _ => False)) { tmps := (ps.zip #[enc x]).foldl (fun t (p, v) => t.setIfInBounds p v) a.tmps, defers := [] } W)
    (hbody : ∀ (l : Nat) (pre : List α) (x : α) (V W : World), I pre W → Px (w.heap.size + 2) pre x V → Chg (fun k => k = w.heap.size + 1) V W → w.heap.size + 1 < W.heap.size → body.wpIn (F.inRound l) (n - 1 - 1) P (cellPost M I (pre ++ [x]) W) (a₁ x) W)
    (hdone : ∀ (xs : List α) (W : World), S xs → I xs W → W.heap[w.heap.size]? = some (.deferred (some [])) → Q .normal { a with defers := { target := .collected w.heap.size, args := #[] } :: a.defers } W) :
    (Code.rangeFunc g ps assign body).wpIn F n P Q a w := by
  refine wpIn_rangeFunc ?_
  intro fn hfn
  rw [hro]
  obtain ⟨rec, hrec⟩ : ∃ rec : LoopState → Option Code → Loop, rec = fun st pe => { state := st, pending := pe, fn, tmps := a.tmps, params := ps, assign, body, defers := w.heap.size } := ⟨_, rfl⟩
  obtain ⟨W1, hW1⟩ : ∃ W1, (w.alloc (.deferred (some []))).alloc (.loop (rec .ready none)) = W1 := ⟨_, rfl⟩
  have hL1 : W1.heap[w.heap.size + 1]? = some (.loop (rec .ready none)) := by
    rw [← hW1]; have := World.alloc_heap_new (w.alloc (.deferred (some []))) (.loop (rec .ready none)); rwa [World.size_alloc] at this
  have hK1 : W1.heap[w.heap.size]? = some (.deferred (some [])) := by
    rw [← hW1]; exact (Below.heap_alloc _ _ _ (by simp)).trans (World.alloc_heap_new w _)
  have hz1 : W1.heap.size = w.heap.size + 2 := by rw [← hW1]; simp
  have hb1 : Ext w W1 := by rw [← hW1]; exact ((Ext.refl w).alloc _).alloc _
  have hI1 : I [] W1 := hI _ _ _ h0 (Chg.of_ext hb1)
  refine ⟨w.heap.size + 1, [{ target := .collected w.heap.size, args := #[] }], W1, { target := .fn (.func gf) lb, args := #[.func (.yield (w.heap.size + 1)) #[] #[]] }, W1, gf,
    #[.func (.yield (w.heap.size + 1)) #[] #[]] ++ lb, W1, ?_, ?_, ?_, ?_, fun _ => h1, ?_⟩
  · rw [← hW1, hrec]; exact run_enterLoop_outer _ _ _ _ _
  · simp only [resolve, hg]
    simp [go_sem]
  · intro f' hf'; simp [Target.leads] at hf'; subst hf'; exact hFg
  · simp [invoke, go_sem, eg]
  · refine (hseq (w.heap.size + 1)
      (fun pre W => I pre W ∧ W.heap[w.heap.size + 1]? = some (.loop (rec .ready none)) ∧ W.heap[w.heap.size]? = some (.deferred (some [])))
      W1 hb1
      (fun s A B hs hc => ⟨hI s A B hs.1 (hc.mono fun k => Or.inl), (hc.block _ (Array.getElem?_eq_some_iff.1 hs.2.1).1 (by omega)).trans hs.2.1, (hc.block _ (Array.getElem?_eq_some_iff.1 hs.2.2).1 (by omega)).trans hs.2.2⟩)
      ?_ ⟨hI1, hL1, hK1⟩).mono ?_
    · -- one round
      rintro pre x W ⟨hi, hl, hk⟩ hpx
      rw [hz1] at hpx
      have hlt : w.heap.size + 1 < W.heap.size := (Array.getElem?_eq_some_iff.1 hl).1
      have hy := run_yield (P := P) (args := #[enc x]) hl (by rw [hrec]; simp [hps])
      rw [hrec] at hy
      refine ⟨fn, _, assign, body, hy, roundIn_of_wpIn hfn (hassign _ x W _ ⟨_, run_beginRound hl (by rw [hrec]), ?_⟩)⟩
      have hl2 : (W.putObj (w.heap.size + 1) (.loop { rec .ready none with state := .busy })).heap[w.heap.size + 1]? = some (.loop { rec .ready none with state := .busy }) := World.putObj_heap_same hlt
      have hk2 : (W.putObj (w.heap.size + 1) (.loop { rec .ready none with state := .busy })).heap[w.heap.size]? = some (.deferred (some [])) := (World.putObj_heap_other (by omega)).trans hk
      have hw2 : Chg M W (W.putObj (w.heap.size + 1) (.loop { rec .ready none with state := .busy })) := (Chg.refl M W).putObj hM1 _
      refine wpIn_mono (hbody _ pre x W _ (hI _ _ _ hi ((Chg.refl _ W).putObj (.inr (.inr rfl)) _)) hpx ((Chg.refl (fun k => k = w.heap.size + 1) W).putObj rfl _) (by simpa using hlt)) ?_
      rintro e a3 W3 hp
      cases e with
      | normal =>
        obtain ⟨hk3, hkp3, hi3⟩ := hp
        have hl3 := hk3.same _ _ hl2 rfl
        have hr := run_endRound (P := P) none hl3
        rw [hrec] at hr hl3
        have hkk := hk3.same _ _ hk2 rfl
        refine ⟨_, _, hr, rfl, ⟨hI _ _ _ hi3 ((Chg.refl _ W3).putObj (.inr (.inr rfl)) _), ?_, (World.putObj_heap_other (by omega)).trans hkk⟩, (hw2.trans hkp3).putObj hM1 _⟩
        rw [hrec]
        exact World.putObj_heap_same (Array.getElem?_eq_some_iff.1 hl3).1
      | ret => exact hp.elim
      | exit id => exact hp.elim
      | goto t => exact hp.elim
      | panic ch => exact hp.elim
      | outgrown => exact hp.elim
    · rintro e W2 ⟨⟨v, rfl⟩, ⟨xs, hS, hi, hl, hk⟩⟩
      have hr := run_endLoop (P := P) hl (by rw [hrec]; simp)
      rw [hrec] at hr
      exact ⟨none, _, hr, hdone xs _ hS (hI _ _ _ hi ((Chg.refl _ W2).putObj (.inr (.inr rfl)) _)) ((World.putObj_heap_other (by omega)).trans hk)⟩
end Go.Proofs.YtkdmljijgfejpaaDoor
