/- Package tree: where a name lies. -/
import Derived.Test.YtmdepmohfnficaaDoorTrW
namespace Go.Proofs.YtmdepmohfnficaaDoor
open Go.RowKit Rk Tr

namespace Tr
def idx (p : Rec → Bool) (l : List Rec) : Int := match l.findIdx? p with
  | some i => (i : Int)
  | none => -1
def atI (l : List Rec) (n : List UInt8) : Int := idx (fun r => seq r.name n) l
theorem idx_hit {p : Rec → Bool} {l : List Rec} {k : Nat} {x : Rec} (h : ∀ j x, j < k → l[j]? = some x → p x = false) (hx : l[k]? = some x) (hp : p x = true) : idx p l = (k : Int) := by
  obtain ⟨hk, rfl⟩ := List.getElem?_eq_some_iff.1 hx
  unfold idx
  rw [List.findIdx?_eq_some_iff_getElem.2 ⟨hk, hp, fun j hj => by
    have := h j l[j] hj (List.getElem?_eq_getElem (by omega))
    simp [this]⟩]
theorem idx_miss {p : Rec → Bool} {l : List Rec} (h : ∀ j x, j < l.length → l[j]? = some x → p x = false) : idx p l = -1 := by
  unfold idx
  rw [List.findIdx?_eq_none_iff.2 fun x hx => by
    obtain ⟨j, hj⟩ := List.getElem?_of_mem hx
    exact h j x (List.getElem?_eq_some_iff.1 hj).1 hj]
theorem atI_some {l : List Rec} {n : List UInt8} {i : Nat} (h : ix l n = some i) : atI l n = (i : Int) := by
  have h : l.findIdx? (fun r => seq r.name n) = some i := h
  unfold atI idx; rw [h]
theorem atI_none {l : List Rec} {n : List UInt8} (h : ix l n = none) : atI l n = -1 := by
  have h : l.findIdx? (fun r => seq r.name n) = none := h
  unfold atI idx; rw [h]
theorem atI_cases (l : List Rec) (n : List UInt8) : (ix l n = none ∧ atI l n = -1) ∨ ∃ (i : Nat) (r : Rec), ix l n = some i ∧ atI l n = (i : Int) ∧ l[i]? = some r ∧ r.name = n := by
  cases h : ix l n with
  | none => exact .inl ⟨rfl, atI_none h⟩
  | some i =>
    obtain ⟨r, h1, h2⟩ := ix_some h
    exact .inr ⟨i, r, rfl, atI_some h, h1, h2⟩
end Tr
theorem rc_cells (r : Rec) : (rcells r)[0]? = some (.int .i64 r.kind) ∧ (rcells r)[1]? = some (.string (str r.name)) ∧ (rcells r)[2]? = some (.string (str r.par)) := ⟨rfl, rfl, rfl⟩
theorem rc_sz (r : Rec) : (Tryd.prog.info? 36).map (·.size) = some (rcells r).size := info_rec
/-- a record out of the middle of a row -/
theorem wpList_load_rec {ops : Array Oper} {rest : List Oper} {o : Oper} {a : Act} {w : World} {Q : Exit → Act → World → Prop} (hw : Region.wanted o (yielded ops a.tmps) = true) (x : Operand) (ho : o.op = .load 36 x)
    (b i : Nat) (hx : a.eval x = .pointer (some ⟨b, i, none⟩)) (r : Rec) (hc : w.rangeAt b i (prow r)) (h : wpList Tryd.prog ops Q rest (a.put o.dst (.agg (rcells r))) w) : wpList Tryd.prog ops Q (o :: rest) a w :=
  wpList_step fun _ hK => by
    rw [if_pos hw]
    exact wp_load_mid 36 x ho b i hx (prow r) _ hc Tryd.underlying36 rfl info_rec (hK _ _ (by
      have : (prow r).toArray = rcells r := by simp [prow]
      rw [this]; exact h))
attribute [local irreducible] rcells
theorem at1_any (r : Rec) (n : List UInt8) (B : Nat) (w : World) (hB : w.cell? ⟨B, 0, none⟩ = some (.string (str n))) :
    Calls Tryd.prog 86 #[.agg (rcells r), .pointer (some ⟨B, 0, none⟩)] w fun e w' => e = .returned (.bool (seq r.name n)) ∧ Ext w w' := by
  have e1 := (Ext.refl w).alloc (.cells (rcells r) 36)
  have c1 := (cell_of_row (w.alloc (.cells (rcells r) 36)) w.heap.size 1 _ _ _ (heap_alloc_new w _)).trans (rc_cells r).2.1
  have cB := e1.cell hB
  go_enter Tryd.func86, Tryd.ntmps86
  go_wp2
  go_ret
  exact ⟨rfl, e1⟩
end Go.Proofs.YtmdepmohfnficaaDoor
