/- Package tree: what is gone; rows rewritten. -/
import Derived.Test.YtmdepmohfnficaaDoorTrF
import Derived.Lib.SliceRun
namespace Go.Proofs.YtmdepmohfnficaaDoor
open Go.RowKit Rk Tr

namespace Tr
def inL (l : List (List UInt8)) (n : List UInt8) : Bool := l.any fun y => seq n y
theorem inL_iff {l : List (List UInt8)} {n : List UInt8} : inL l n = true ↔ n ∈ l := by
  unfold inL
  rw [List.any_eq_true]
  exact ⟨fun ⟨x, h1, h2⟩ => by rw [seq_true.1 h2]; exact h1, fun h => ⟨n, h, seq_true.2 rfl⟩⟩
theorem inL_contains (l : List (List UInt8)) (n : List UInt8) : inL l n = l.contains n := by
  rw [Bool.eq_iff_iff, inL_iff, List.contains_iff_mem]
end Tr
theorem indexStr_any (v : Value) (l : List (List UInt8)) (n : List UInt8) (w : World) (h : Sl sv w v l) :
    Calls Tryd.prog 88 #[v, .string (str n)] w fun e w' => (∃ z : Int, e = .returned (.int .i64 z) ∧ decide (0 ≤ z) = inL l n) ∧ Ext w w' := by
  obtain ⟨a, cap, rfl, hA⟩ := h
  have hlen := hA.len
  have hgh := Lib.hid hA.cells
  have e0 := Ext.refl w
  clear hA
  go_enter Tryd.func88, Tryd.ntmps88
  go_wp2
  go_loopw [8] (fun i wr => ∃ k : Nat, k ≤ l.length ∧ i = .int .i64 (k : Int) ∧ RowKit.Hid (∀ j x, j < k → l[j]? = some x → seq n x = false) ∧ Ext w wr) (fun i _ => l.length - (intOf i).toNat)
  case atStart => exact ⟨0, Nat.zero_le _, rfl, Lib.hid fun j x hj => by omega, e0⟩
  case round =>
    obtain ⟨k, hk, rfl, hno, ek⟩ := hrel
    clear e0
    by_cases hlt : k < l.length
    · obtain ⟨x, hx⟩ := some_at hlt
      obtain ⟨g, o, rfl, c1⟩ := hgh.out k x hx
      have hki : (k : Int) < (l.length : Int) := by omega
      have hw : IntKind.i64.wrap ((k : Int) + 1) = (k : Int) + 1 := by rw [IntKind.wrap_i64]; omega
      have d1 := ek.cell c1
      have hit : RowKit.Hid (seq n x = true → inL l n = true) := Lib.hid fun h => inL_iff.2 (by rw [seq_true.1 h]; exact List.mem_of_getElem? hx)
      have hnx := Lib.hid (fun h => (fun j y hj hy => if e : j = k then by subst e; rw [hx] at hy; cases hy; exact h else hno.out j y (by omega) hy) : seq n x = false → ∀ j y, j < k + 1 → l[j]? = some y → seq n y = false)
      unfold sv at d1
      clear c1 hx hno
      cases hs : seq n x
      · have hnx2 := Lib.hid (hnx.out hs)
        clear hnx hit
        go_wp2
        go_roundw
        case rel => exact ⟨k + 1, by omega, by go_num, Lib.hid hnx2.out, ek⟩
        case measure => simp [intOf]; omega
      · have hit2 := Lib.hid (hit.out hs)
        clear hnx hit
        go_wp2
        go_ret
        exact ⟨⟨_, rfl, by rw [hit2.out]; simp⟩, ek⟩
    · obtain rfl : k = l.length := by omega
      have hm : RowKit.Hid (inL l n = false) := Lib.hid (by
        unfold inL
        rw [List.any_eq_false]
        intro x hx
        obtain ⟨j, hj⟩ := List.getElem?_of_mem hx
        rw [hno.out j x (List.getElem?_eq_some_iff.1 hj).1 hj]; simp)
      clear hno
      go_wp2
      go_ret
      exact ⟨⟨_, rfl, by rw [hm.out]; rfl⟩, ek⟩
theorem contains_any (v : Value) (l : List (List UInt8)) (n : List UInt8) (w : World) (h : Sl sv w v l) :
    Calls Tryd.prog 71 #[v, .string (str n)] w fun e w' => e = .returned (.bool (inL l n)) ∧ Ext w w' := by
  have hi := indexStr_any v l n w h
  go_enter Tryd.func71, Tryd.ntmps71
  go_wp2_with (go_at_call 88; refine hi.mono ?_; rintro e w' ⟨⟨z, rfl, hz⟩, e1⟩)
  go_ret
  exact ⟨by first | rfl | rw [hz], e1⟩
theorem setCells_row2 (g : Nat) (E : TypeId) (fr : Nat × Nat) : ∀ (vs : List Value) (o : Nat) (w : World) (cur : Array Value), w.heap[g]? = some (.cells cur E fr) → o + vs.length ≤ cur.size →
    ∃ cur', (w.setCells g o vs).heap[g]? = some (.cells cur' E fr) ∧ cur'.size = cur.size
  | vs, o, w, cur, h, hl => by
    obtain ⟨c, h1, h2, -⟩ := setCells_row g E fr vs o w cur h hl
    exact ⟨c, h1, h2⟩
/-- 'clear(s)' on a slice of elements of many cells -/
theorem run_clear_cells {P : Program} (w : World) (t e ty : TypeId) (z : Value) (ht : P.underlying t = some (.slice e)) (hv : ∀ w, (zeroValue e).run P w = .ok z w) (h1 : ∀ u ∈ z.cells, u.oneCell' = true) (hz0 : 0 < z.cells.size) (b o n c : Nat) (hn : 0 < n)
    (hth : w.there b o (n * z.cells.size)) :
    (Builtin.clear_ #[t] ty #[.slice (some ⟨b, o, none⟩) n c]).run P w = .ok (.tuple #[]) (w.setCells b o (Builtin.zeroCells z.cells n).toList) := by
  have hl : (Builtin.zeroCells z.cells n).toList.length = n * z.cells.size := by simp [Builtin.zeroCells]
  have hst := run_storeCells_cells (P := P) b o (Builtin.zeroCells z.cells n).toList 0 w (fun j hj => by simpa using (hth j (by rw [hl] at hj; exact hj)).1) (fun j hj => by simpa using (hth j (by rw [hl] at hj; exact hj)).2) (by
    intro u hu
    simp only [Builtin.zeroCells, Array.toList_map, List.mem_map] at hu
    obtain ⟨i, -, rfl⟩ := hu
    have hi : i % z.cells.size < z.cells.size := Nat.mod_lt _ hz0
    rw [getElem!_pos z.cells _ hi]
    exact h1 _ (Array.getElem_mem hi))
  simp only [Nat.add_zero] at hst
  obtain ⟨m, rfl⟩ : ∃ m, n = m + 1 := ⟨n - 1, by omega⟩
  simp [Builtin.clear_, run_underlying ht, hv, hst]
attribute [local irreducible] rcells
theorem drop1_any (r : Rec) (gv : Value) (gone : List (List UInt8)) (B : Nat) (w : World) (hB : w.cell? ⟨B, 0, none⟩ = some gv) (hg : Sl sv w gv gone) :
    Calls Tryd.prog 70 #[.agg (rcells r), .pointer (some ⟨B, 0, none⟩)] w fun e w' => e = .returned (.bool (inL gone r.name)) ∧ Ext w w' := by
  have e1 := (Ext.refl w).alloc (.cells (rcells r) 36)
  have c1 := (cell_of_row (w.alloc (.cells (rcells r) 36)) w.heap.size 1 _ _ _ (heap_alloc_new w _)).trans (rc_cells r).2.1
  have cB := e1.cell hB
  have hc := contains_any gv gone r.name _ (hg.ext e1)
  obtain ⟨a, cap, rfl, -⟩ := hg
  clear hB
  go_enter Tryd.func70, Tryd.ntmps70
  go_wp2_with (go_at_call 71; refine hc.mono ?_; rintro e w' ⟨rfl, e2⟩)
  go_ret
  exact ⟨rfl, e1.trans e2⟩
end Go.Proofs.YtmdepmohfnficaaDoor
