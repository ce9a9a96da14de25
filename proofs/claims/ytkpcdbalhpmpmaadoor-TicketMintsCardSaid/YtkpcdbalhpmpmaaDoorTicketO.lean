/- How slices of draws, of texts, of numbers are opened. -/
import Derived.Test.YtkpcdbalhpmpmaaDoorTicketLaid
import Derived.SliceStrings
namespace Go.Proofs.YtkpcdbalhpmpmaaDoor
open Go.ChangeShapes Go.WideShapes Go.ChangeAt Go.RowKit

/-- a draw in a slice -/
def uv (x : BitVec 64) : Value := .int .u64 (V x)
theorem sel_none {W : World} {a : Addr} {u : Value} (h : W.cell? a = some u) : ∃ g o, a = ⟨g, o, none⟩ := by
  obtain ⟨g, o, s⟩ := a
  cases s with
  | none => exact ⟨g, o, rfl⟩
  | some s =>
    have : W.cell? ⟨g, o, some s⟩ = none := by
      unfold World.cell?
      cases W.heap[(⟨g, o, some s⟩ : Addr).block]? with
      | none => rfl
      | some ob => cases ob <;> simp
    rw [this] at h; cases h
section
variable {H : Type} {enc : TypeId × Value → H} {W : World} {base : Nat} {v : Value} {d : DataW H} {p : List MemPlace}
theorem cells64 : Tryd.prog.cellsOf 22 = 1 := by kernel_rfl
theorem u64_of {z : Int} (h : (Lit.int .u64 z).wf = true) : V (BitVec.ofInt 64 z) = z := by
  have hb : 0 ≤ z ∧ z < 18446744073709551616 := by
    simp [Lit.wf, IntKind.min, IntKind.max, IntKind.signed, IntKind.bits] at h
    omega
  exact V_ofInt z hb.1 hb.2
theorem open_u64s (hval : Value.okWide Tryd.prog W .any base 32 v) (h : DataW.Trod enc Tryd.prog W 0 (fun _ => true) true 32 v d p) : ∃ l, Sl uv W v l := by
  obtain ⟨a0, len0, cap0, rfl⟩ := okWide_slice Tryd.underlying32 hval
  obtain ⟨fuel, hf⟩ := h
  rcases open_ints Tryd.underlying32 Tryd.underlying22 cells64 hf with ⟨hcs, hx⟩ | ⟨a, len, cap, zs, hcs, _, hl, hm, hz, hx, hcell, hwz⟩
  · simp [Value.cells] at hcs
    obtain ⟨rfl, rfl, rfl⟩ := hcs
    exact ⟨[], Sl.nil W⟩
  · simp [Value.cells] at hcs
    obtain ⟨rfl, rfl, rfl⟩ := hcs
    simp only [if_true] at hz
    have hlen : ((zs.take len0).map (BitVec.ofInt 64)).length = len0 := by simp; omega
    refine ⟨(zs.take len0).map (BitVec.ofInt 64), some a, cap0, by rw [hlen], by rw [hlen]; exact hl, hm, fun h => by simp at h, fun j x hj => ?_⟩
    have hj' : j < len0 := by rw [← hlen]; exact (List.getElem?_eq_some_iff.1 hj).1
    have h0 := hcell 0 (by omega)
    have hc := hcell j (by omega)
    obtain ⟨g, o, rfl⟩ := sel_none h0
    refine ⟨g, o, rfl, ?_⟩
    rw [Addr.add_lit] at hc
    rw [hc]
    have hzl : j < zs.length := by omega
    have hw := hwz (zs.getD j 0) (by simp [List.getD, hzl])
    have e : x = BitVec.ofInt 64 (zs.getD j 0) := by
      rw [List.getElem?_map, List.getElem?_take, if_pos hj', List.getElem?_eq_getElem hzl] at hj
      simp only [Option.map_some, Option.some.injEq] at hj
      rw [← hj]; simp [List.getD, hzl]
    rw [e]; unfold uv; rw [u64_of hw]
theorem open_strs (hval : Value.okWide Tryd.prog W .any base 28 v) (h : DataW.Trod enc Tryd.prog W 0 (fun _ => true) true 28 v d p) : ∃ l, Sl sv W v l := by
  obtain ⟨a0, len0, cap0, rfl⟩ := okWide_slice Tryd.underlying28 hval
  obtain ⟨fuel, hf⟩ := h
  rcases open_strings Tryd.underlying28 Tryd.underlying9 cellsS hf with ⟨hcs, hx⟩ | ⟨a, len, cap, ss, hcs, _, hl, hm, hz, hx, hcell, _⟩
  · simp [Value.cells] at hcs
    obtain ⟨rfl, rfl, rfl⟩ := hcs
    exact ⟨[], Sl.nil W⟩
  · simp [Value.cells] at hcs
    obtain ⟨rfl, rfl, rfl⟩ := hcs
    simp only [if_true] at hz
    have hlen : ((ss.take len0).map fun s : ByteArray => s.data.toList).length = len0 := by simp; omega
    refine ⟨(ss.take len0).map fun s : ByteArray => s.data.toList, some a, cap0, by rw [hlen], by rw [hlen]; exact hl, hm, fun h => by simp at h, fun j x hj => ?_⟩
    have hj' : j < len0 := by rw [← hlen]; exact (List.getElem?_eq_some_iff.1 hj).1
    have h0 := hcell 0 (by omega)
    have hc := hcell j (by omega)
    obtain ⟨g, o, rfl⟩ : ∃ g o, a = ⟨g, o, none⟩ := by
      rw [Addr.add_zero'] at h0
      exact sel_none h0
    refine ⟨g, o, rfl, ?_⟩
    rw [Addr.add_lit] at hc
    rw [hc]
    have hzl : j < ss.length := by omega
    rw [List.getElem?_map, List.getElem?_take, if_pos hj', List.getElem?_eq_getElem hzl] at hj
    simp only [Option.map_some, Option.some.injEq] at hj
    rw [← hj]; simp [List.getD, hzl, sv]; rfl
end
end Go.Proofs.YtkpcdbalhpmpmaaDoor
