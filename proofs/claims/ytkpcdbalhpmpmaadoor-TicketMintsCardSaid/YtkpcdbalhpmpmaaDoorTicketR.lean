/- How slices of numbers and of truths are opened. -/
import Derived.Test.YtkpcdbalhpmpmaaDoorTicketQ
import Derived.Deep.Grids
namespace Go.Proofs.YtkpcdbalhpmpmaaDoor
open Go.ChangeShapes Go.WideShapes Go.ChangeAt Go.RowKit
section
variable {H : Type} {enc : TypeId × Value → H} {W : World} {base : Nat} {v : Value} {d : DataW H} {p : List MemPlace}
theorem cellsI : Tryd.prog.cellsOf 3 = 1 := by kernel_rfl
theorem cellsB : Tryd.prog.cellsOf 4 = 1 := by kernel_rfl
theorem open_i64s (hval : Value.okWide Tryd.prog W .any base 39 v) (h : DataW.Trod enc Tryd.prog W 0 (fun _ => true) true 39 v d p) : ∃ l, Sl iv W v l := by
  obtain ⟨a0, len0, cap0, rfl⟩ := okWide_slice Tryd.underlying39 hval
  obtain ⟨fuel, hf⟩ := h
  rcases open_ints Tryd.underlying39 Tryd.underlying3 cellsI hf with ⟨hcs, hx⟩ | ⟨a, len, cap, zs, hcs, _, hl, hm, hz, hx, hcell, _⟩
  · simp [Value.cells] at hcs
    obtain ⟨rfl, rfl, rfl⟩ := hcs
    exact ⟨[], Sl.nil W⟩
  · simp [Value.cells] at hcs
    obtain ⟨rfl, rfl, rfl⟩ := hcs
    simp only [if_true] at hz
    have hlen : (zs.take len0).length = len0 := by simp; omega
    refine ⟨zs.take len0, some a, cap0, by rw [hlen], by rw [hlen]; exact hl, hm, fun h => by simp at h, fun j x hj => ?_⟩
    have hj' : j < len0 := by rw [← hlen]; exact (List.getElem?_eq_some_iff.1 hj).1
    have h0 := hcell 0 (by omega)
    have hc := hcell j (by omega)
    obtain ⟨g, o, rfl⟩ : ∃ g o, a = ⟨g, o, none⟩ := sel_none h0
    refine ⟨g, o, rfl, ?_⟩
    rw [Addr.add_lit] at hc
    rw [hc]
    have hzl : j < zs.length := by omega
    rw [List.getElem?_take, if_pos hj', List.getElem?_eq_getElem hzl] at hj
    simp only [Option.some.injEq] at hj
    rw [← hj]; simp [List.getD, hzl, iv]
theorem open_bls (hval : Value.okWide Tryd.prog W .any base 40 v) (h : DataW.Trod enc Tryd.prog W 0 (fun _ => true) true 40 v d p) : ∃ l, Sl bv W v l := by
  obtain ⟨a0, len0, cap0, rfl⟩ := okWide_slice Tryd.underlying40 hval
  obtain ⟨fuel, hf⟩ := h
  rcases Go.Deep.open_bools Tryd.underlying40 Tryd.underlying4 cellsB hf with ⟨hcs, hx⟩ | ⟨a, len, cap, B, hcs, _, hl, hm, hx, hcell⟩
  · simp [Value.cells] at hcs
    obtain ⟨rfl, rfl, rfl⟩ := hcs
    exact ⟨[], Sl.nil W⟩
  · simp [Value.cells] at hcs
    obtain ⟨rfl, rfl, rfl⟩ := hcs
    have hlen : ((List.range len0).map B).length = len0 := by simp
    refine ⟨(List.range len0).map B, some a, cap0, by rw [hlen], by rw [hlen]; exact hl, hm, fun h => by simp at h, fun j x hj => ?_⟩
    have hj' : j < len0 := by rw [← hlen]; exact (List.getElem?_eq_some_iff.1 hj).1
    have h0 := hcell 0 (by omega)
    have hc := hcell j (by omega)
    obtain ⟨g, o, rfl⟩ : ∃ g o, a = ⟨g, o, none⟩ := sel_none h0
    refine ⟨g, o, rfl, ?_⟩
    rw [Addr.add_lit] at hc
    rw [hc]
    rw [List.getElem?_map, List.getElem?_range hj'] at hj
    simp only [Option.map_some, Option.some.injEq] at hj
    rw [← hj]; rfl
end
end Go.Proofs.YtkpcdbalhpmpmaaDoor
