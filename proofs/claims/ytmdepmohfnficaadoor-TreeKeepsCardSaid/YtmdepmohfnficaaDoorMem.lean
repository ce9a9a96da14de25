/- Words for calls that write into memory: what may have changed; rows of integers. -/
import Derived.Test.YtmdepmohfnficaaDoorBase
namespace Go.Proofs.YtmdepmohfnficaaDoor
set_option linter.unusedVariables false
set_option linter.unusedSimpArgs false
open Go.RowKit

/-! ### What may have changed -/
/-- w' goes on from w: of what was there no block has turned but those of p -/
structure Chg (p : Nat → Prop) (w w' : World) : Prop where
  os : w'.os = w.os
  tape : w'.tape = w.tape
  output : w'.output = w.output
  size : w.heap.size ≤ w'.heap.size
  block : ∀ k, k < w.heap.size → ¬ p k → w'.heap[k]? = w.heap[k]?
theorem Chg.refl (p : Nat → Prop) (w : World) : Chg p w w := ⟨rfl, rfl, rfl, Nat.le_refl _, fun _ _ _ => rfl⟩
theorem Chg.trans {p : Nat → Prop} {a b c : World} (h : Chg p a b) (k : Chg p b c) : Chg p a c :=
  ⟨k.os.trans h.os, k.tape.trans h.tape, k.output.trans h.output, Nat.le_trans h.size k.size, fun i hi hp => (k.block i (Nat.lt_of_lt_of_le hi h.size) hp).trans (h.block i hi hp)⟩
theorem Chg.mono {p q : Nat → Prop} {w w' : World} (h : Chg p w w') (hpq : ∀ k, p k → q k) : Chg q w w' :=
  ⟨h.os, h.tape, h.output, h.size, fun k hk hq => h.block k hk fun hp => hq (hpq k hp)⟩
theorem Chg.ext {p : Nat → Prop} {a w w' : World} (h : Chg p a w) (e : Ext w w') : Chg p a w' :=
  ⟨e.os.trans h.os, e.tape.trans h.tape, e.output.trans h.output, Nat.le_trans h.size e.size, fun i hi hp => (e.block i (Nat.lt_of_lt_of_le hi h.size)).trans (h.block i hi hp)⟩
theorem Chg.of_ext {p : Nat → Prop} {w w' : World} (e : Ext w w') : Chg p w w' := (Chg.refl p w).ext e
theorem Chg.alloc {p : Nat → Prop} {a w : World} (h : Chg p a w) (o : Obj) : Chg p a (w.alloc o) := h.ext ((Ext.refl w).alloc o)
theorem Chg.drew {p : Nat → Prop} {a w : World} (h : Chg p a w) : Chg p a w.drew := h.ext (Ext.refl w).drew
/-- a store into a block of p, or into one that was not there -/
theorem Chg.setCell {p : Nat → Prop} {a w : World} (h : Chg p a w) {x : Addr} (hx : x.block < a.heap.size → p x.block) (u : Value) : Chg p a (w.setCell x u) :=
  ⟨h.os, h.tape, h.output, by simpa [World.setCell] using h.size, fun i hi hp => (Below.heap_setCell w x u i fun e => hp (by subst e; exact hx hi)).trans (h.block i hi hp)⟩
/-- what changed was not there when a began -/
theorem Ext.chg {p : Nat → Prop} {a w w' : World} (h : Ext a w) (k : Chg p w w') (hp : ∀ i, p i → a.heap.size ≤ i) : Ext a w' :=
  ⟨k.os.trans h.os, k.tape.trans h.tape, k.output.trans h.output, Nat.le_trans h.size k.size,
    fun i hi => (k.block i (Nat.lt_of_lt_of_le hi h.size) fun q => by have := hp i q; omega).trans (h.block i hi)⟩
theorem Chg.toExt {w w' : World} (h : Chg (fun _ => False) w w') : Ext w w' := ⟨h.os, h.tape, h.output, h.size, fun k hk => h.block k hk id⟩
theorem Chg.grown {p : Nat → Prop} {a w w' : World} {row : Option Nat} (h : Chg p a w) (hg : w.grownBy w' row) (hr : ∀ k, row = some k → k < a.heap.size → p k) : Chg p a w' :=
  ⟨hg.os.trans h.os, hg.tape.trans h.tape, hg.output.trans h.output, Nat.le_trans h.size hg.size,
    fun i hi hp => (hg.block i (Nat.lt_of_lt_of_le hi h.size) fun e => hp (hr i e.symm hi)).trans (h.block i hi hp)⟩

/-! ### A row of ints -/
/-- block g holds n ints, the i-th one is f i -/
def IRow (w : World) (g n : Nat) (f : Nat → Int) : Prop := ∃ cs : Array Value, w.heap[g]? = some (.cells cs 3 (0, 0)) ∧ cs.size = n ∧ ∀ i, i < n → cs[i]? = some (.int .i64 (f i))
theorem IRow.lt {w : World} {g n : Nat} {f : Nat → Int} (h : IRow w g n f) : g < w.heap.size := let ⟨_, h1, _⟩ := h; (Array.getElem?_eq_some_iff.1 h1).1
theorem IRow.cell {w : World} {g n : Nat} {f : Nat → Int} (h : IRow w g n f) (i : Nat) (hi : i < n) : w.cell? ⟨g, i, none⟩ = some (.int .i64 (f i)) := by
  obtain ⟨cs, h1, h2, h3⟩ := h
  rw [cell_of_row w g i cs _ _ h1, h3 i hi]
theorem IRow.free {w : World} {g n : Nat} {f : Nat → Int} (h : IRow w g n f) (i : Nat) : w.frozen? ⟨g, i, none⟩ = false := by
  obtain ⟨cs, h1, h2, h3⟩ := h
  simp [World.frozen?, h1]
theorem IRow.congr {w : World} {g n : Nat} {f f' : Nat → Int} (h : IRow w g n f) (e : ∀ i, i < n → f i = f' i) : IRow w g n f' := by
  obtain ⟨cs, h1, h2, h3⟩ := h
  exact ⟨cs, h1, h2, fun i hi => by rw [h3 i hi, e i hi]⟩
theorem IRow.set {w : World} {g n : Nat} {f : Nat → Int} (h : IRow w g n f) (j : Nat) (z : Int) (f' : Nat → Int) (hj : j < n → f' j = z) (he : ∀ i, i < n → i ≠ j → f' i = f i) : IRow (w.setCell ⟨g, j, none⟩ (.int .i64 z)) g n f' := by
  obtain ⟨cs, h1, h2, h3⟩ := h
  refine ⟨_, setCell_row w g j cs _ _ _ h1, by simpa using h2, fun i hi => ?_⟩
  rw [Array.getElem?_setIfInBounds]
  by_cases e : j = i
  · subst e; rw [if_pos rfl, if_pos (by omega), hj hi]
  · rw [if_neg e, h3 i hi, he i hi (Ne.symm e)]
theorem IRow.chg {p : Nat → Prop} {w w' : World} {g n : Nat} {f : Nat → Int} (h : IRow w g n f) (c : Chg p w w') (hg : ¬ p g) : IRow w' g n f := by
  have hl := h.lt
  obtain ⟨cs, h1, r⟩ := h
  exact ⟨cs, by rw [c.block g hl hg]; exact h1, r⟩
theorem IRow.drew {w : World} {g n : Nat} {f : Nat → Int} (h : IRow w g n f) : IRow w.drew g n f := h
end Go.Proofs.YtmdepmohfnficaaDoor
