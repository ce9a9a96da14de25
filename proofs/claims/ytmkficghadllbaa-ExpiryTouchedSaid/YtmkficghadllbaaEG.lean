/- How records and numbers of 16 bits that come in are opened. -/
import Derived.Test.YtmkficghadllbaaLift
import Derived.Test.YtmkficghadllbaaEF
namespace Go.Proofs.Ytmkficghadllbaa
open Go.RowKit Rk

section
variable {W : World} {base : Nat} {v : Value}
theorem cell_int {u : Value} (h : Cell.okWide Try.prog W .any base 3 u) : ∃ n, u = .int .i64 n := by
  simp only [Cell.okWide, Try.underlying3] at h
  cases u <;> simp_all [Cell.ok, Try.underlying3]
theorem cell_bool {u : Value} (h : Cell.okWide Try.prog W .any base 4 u) : ∃ n, u = .bool n := by
  simp only [Cell.okWide, Try.underlying4] at h
  cases u <;> simp_all [Cell.ok, Try.underlying4]
theorem cell_str {u : Value} (h : Cell.okWide Try.prog W .any base 9 u) : ∃ l : List UInt8, l.length ≤ 9223372036854775807 ∧ u = .string (str l) := by
  simp only [Cell.okWide, Try.underlying9] at h
  cases u with
  | string s =>
    simp only [Cell.ok, Try.underlying9] at h
    refine ⟨s.data.toList, ?_, rfl⟩
    have : s.data.toList.length = s.size := rfl
    simp [IntKind.max, IntKind.signed, IntKind.bits] at h
    omega
  | _ => simp_all [Cell.ok, Try.underlying9]
theorem ten_of {cs : Array Value} (h : cs.size = 10) : ∃ a b c d e f g i j k, cs = #[a, b, c, d, e, f, g, i, j, k] := by
  obtain ⟨l⟩ := cs
  match l, h with
  | [a, b, c, d, e, f, g, i, j, k], _ => exact ⟨a, b, c, d, e, f, g, i, j, k, rfl⟩
theorem types_rec : Try.prog.cellTypes Try.prog.depth 23 = some [3, 9, 9, 9, 9, 9, 3, 3, 3, 4] := by kernel_rfl
theorem open_rec (hval : Value.okWide Try.prog W .any base 23 v) : ∃ r : Rec, Fits r ∧ v = .agg (rcells r) := by
  simp only [Value.okWide, Try.underlying23] at hval
  obtain ⟨cs, rfl, hs, ts, ht, -, hc⟩ := hval
  have hs10 : cs.size = 10 := by rw [hs]; kernel_rfl
  rw [types_rec] at ht
  obtain rfl := Option.some.inj ht
  obtain ⟨a, b, c, d, e, f, g, i, j, k, rfl⟩ := ten_of hs10
  have q : ∀ n u, #[a, b, c, d, e, f, g, i, j, k][n]? = some u → ∀ t, [3, 9, 9, 9, 9, 9, 3, 3, 3, 4][n % 10]? = some t → Cell.okWide Try.prog W .any base t u := fun n u hu t ht => by
    obtain ⟨t', h1, h2⟩ := hc n u hu
    have : t' = t := Option.some.inj (h1.symm.trans ht)
    rwa [this] at h2
  obtain ⟨x0, rfl⟩ := cell_int (q 0 a rfl _ rfl)
  obtain ⟨x1, l1, rfl⟩ := cell_str (q 1 b rfl _ rfl)
  obtain ⟨x2, l2, rfl⟩ := cell_str (q 2 c rfl _ rfl)
  obtain ⟨x3, l3, rfl⟩ := cell_str (q 3 d rfl _ rfl)
  obtain ⟨x4, l4, rfl⟩ := cell_str (q 4 e rfl _ rfl)
  obtain ⟨x5, l5, rfl⟩ := cell_str (q 5 f rfl _ rfl)
  obtain ⟨x6, rfl⟩ := cell_int (q 6 g rfl _ rfl)
  obtain ⟨x7, rfl⟩ := cell_int (q 7 i rfl _ rfl)
  obtain ⟨x8, rfl⟩ := cell_int (q 8 j rfl _ rfl)
  obtain ⟨x9, rfl⟩ := cell_bool (q 9 k rfl _ rfl)
  exact ⟨⟨x0, x1, x2, x3, x4, x5, x6, x7, x8, x9⟩, ⟨l1, l2, l3, l4, l5⟩, rfl⟩
end
open Go.ChangeShapes Go.WideShapes Go.ChangeAt
section
variable {H : Type} {enc : TypeId × Value → H} {W : World} {base : Nat} {v : Value} {d : DataW H} {p : List MemPlace}
theorem open_u16 (hval : Value.okWide Try.prog W .any base 24 v) (h : DataW.Trod enc Try.prog W 0 (fun _ => true) true 24 v d p) : ∃ x : Nat, x < 65536 ∧ v = .int .u16 (x : Int) := by
  obtain ⟨n, rfl, _, _, hw⟩ := open_int Try.underlying24 hval h
  simp [Lit.wf, IntKind.min, IntKind.max, IntKind.signed, IntKind.bits] at hw
  exact ⟨n.toNat, by omega, by congr 1; omega⟩
end
end Go.Proofs.Ytmkficghadllbaa
