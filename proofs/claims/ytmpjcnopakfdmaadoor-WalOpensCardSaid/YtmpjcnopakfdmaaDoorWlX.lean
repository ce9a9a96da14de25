/- WalOpens: openings, words. -/
import Derived.Test.YtmpjcnopakfdmaaDoorWlW
import Derived.Test.YtmpjcnopakfdmaaDoorWlH
namespace Go.Proofs.YtmpjcnopakfdmaaDoor
set_option linter.unusedVariables false
set_option linter.unusedSimpArgs false
open Go.ChangeShapes Go.WideShapes Go.ChangeAt Go.RowKit

def un (x : Nat) : Value := .int .u32 (x : Int)
set_option maxRecDepth 20000
section
variable {H : Type} {enc : TypeId × Value → H} {W : World} {base : Nat} {v : Value} {d : DataW H} {p : List MemPlace}
theorem cells32 : Tryd.prog.cellsOf 41 = 1 := by kernel_rfl
theorem un_of {z : Int} (h : (Lit.int .u32 z).wf = true) : ((z.toNat : Nat) : Int) = z ∧ z.toNat < 4294967296 := by
  have hb : 0 ≤ z ∧ z < 4294967296 := by
    simp [Lit.wf, IntKind.min, IntKind.max, IntKind.signed, IntKind.bits] at h
    omega
  omega
theorem open_u32s (hval : Value.okWide Tryd.prog W .any base 39 v) (h : DataW.Trod enc Tryd.prog W 0 (fun _ => true) true 39 v d p) : ∃ l, Sl un W v l ∧ ∀ x ∈ l, x < 4294967296 := by
  obtain ⟨a0, len0, cap0, rfl⟩ := okWide_slice Tryd.underlying39 hval
  obtain ⟨fuel, hf⟩ := h
  rcases open_ints Tryd.underlying39 Tryd.underlying41 cells32 hf with ⟨hcs, hx⟩ | ⟨a, len, cap, zs, hcs, _, hl, hm, hz, hx, hcell, hwz⟩
  · simp [Value.cells] at hcs
    obtain ⟨rfl, rfl, rfl⟩ := hcs
    exact ⟨[], Sl.nil W, fun x hx => by simp at hx⟩
  · simp [Value.cells] at hcs
    obtain ⟨rfl, rfl, rfl⟩ := hcs
    simp only [if_true] at hz
    have hlen : ((zs.take len0).map Int.toNat).length = len0 := by simp; omega
    refine ⟨(zs.take len0).map Int.toNat, ⟨some a, cap0, by rw [hlen], by rw [hlen]; exact hl, hm, fun h => by simp at h, fun j x hj => ?_⟩, fun x hx => ?_⟩
    · have hj' : j < len0 := by rw [← hlen]; exact (List.getElem?_eq_some_iff.1 hj).1
      have h0 := hcell 0 (by omega)
      have hc := hcell j (by omega)
      obtain ⟨g, o, rfl⟩ := sel_none h0
      refine ⟨g, o, rfl, ?_⟩
      rw [Addr.add_lit] at hc
      rw [hc]
      have hzl : j < zs.length := by omega
      have hw := hwz (zs.getD j 0) (by simp [List.getD, hzl])
      have e : x = (zs.getD j 0).toNat := by
        rw [List.getElem?_map, List.getElem?_take, if_pos hj', List.getElem?_eq_getElem hzl] at hj
        simp only [Option.map_some, Option.some.injEq] at hj
        rw [← hj]; simp [List.getD, hzl]
      rw [e]; unfold un; rw [(un_of hw).1]
    · obtain ⟨z, hz', rfl⟩ := List.mem_map.1 hx
      exact (un_of (hwz z (List.mem_of_mem_take hz'))).2
theorem open_bool (hval : Value.okWide Tryd.prog W .any base 4 v) (h : DataW.Trod enc Tryd.prog W 0 (fun _ => true) true 4 v d p) : ∃ b : Bool, v = .bool b := by
  simp only [Value.okWide, Tryd.underlying4] at hval
  simp only [Cell.okWide, Tryd.underlying4] at hval
  cases v <;> simp_all [Cell.ok, Tryd.underlying4]
end
end Go.Proofs.YtmpjcnopakfdmaaDoor
