/- Slices of slices of bytes, opened. -/
import Derived.Test.YtmpjcnopakfdmaaDoorLift
import Derived.Test.YtmpjcnopakfdmaaDoorLL
import Derived.Deep.Grids
namespace Go.Proofs.YtmpjcnopakfdmaaDoor
set_option linter.unusedVariables false
set_option linter.unusedSimpArgs false
open Go.ChangeShapes Go.WideShapes Go.ChangeAt Go.RowKit
set_option maxRecDepth 20000

theorem cells8' : Tryd.prog.cellsOf 5 = 1 := by kernel_rfl
theorem cellsBs : Tryd.prog.cellsOf 22 = 1 := by kernel_rfl
theorem sel_none {W : World} {a : Addr} {u : Value} (h : W.cell? a = some u) : ∃ g o, a = ⟨g, o, none⟩ := by
  obtain ⟨g, o, s⟩ := a
  cases s with
  | none => exact ⟨g, o, rfl⟩
  | some s =>
    have : W.cell? ⟨g, o, some s⟩ = none := by
      unfold World.cell?
      cases W.heap[(⟨g, o, some s⟩ : Addr).block]? with
      | none => rfl
      | some ob => cases ob <;> simp
    rw [this] at h; simp at h
section
variable {H : Type} {enc : TypeId × Value → H} {W : World} {n : Nat} {v : Value} {x : DataW H × List MemPlace}
theorem bytes_of (hf : DataW.trod enc Tryd.prog W 0 (fun _ => true) true n 22 [v] = some x) : ∃ l, Bytes W v l := by
  rcases open_ints Tryd.underlying22 Tryd.underlying5 cells8' hf with ⟨hcs, hx⟩ | ⟨a, len, cap, zs, hcs, _, hl, hm, hz, hx, hcell, hwz⟩
  · obtain rfl : v = .slice none 0 0 := by simpa using hcs
    exact ⟨[], Bytes.nil W⟩
  · obtain rfl : v = .slice (some a) len cap := by simpa using hcs
    simp only [if_true] at hz
    refine ⟨u8s (zs.take len), some a, cap, ?_, ?_, hm, fun h => by simp at h, fun j hj => ?_⟩
    · simp [u8s, hz, Nat.min_eq_left hl]
    · simp [u8s, hz, Nat.min_eq_left hl, hl]
    · have hj' : j < len := by simpa [u8s, hz, Nat.min_eq_left hl] using hj
      have hc := hcell j (by omega)
      obtain ⟨g, o, rfl⟩ : ∃ g o, a = ⟨g, o, none⟩ := sel_none (hcell 0 (by omega))
      refine ⟨g, o, rfl, ?_⟩
      rw [Addr.add_lit] at hc
      rw [hc]
      have hw := hwz (zs.getD j 0) (by
        have : j < zs.length := by omega
        simp [List.getD, this])
      have e : (u8s (zs.take len))[j] = UInt8.ofNat (zs.getD j 0).toNat := by
        have : j < zs.length := by omega
        simp [u8s, List.getD, this]
      rw [e, u8_of hw]
end
section
theorem list_of {α : Type} {Q : Nat → α → Prop} : ∀ (n : Nat), (∀ i, i < n → ∃ x, Q i x) → ∃ l : List α, l.length = n ∧ ∀ i x, l[i]? = some x → Q i x
  | 0, _ => ⟨[], rfl, fun i x h => by simp at h⟩
  | n + 1, h => by
    obtain ⟨l, hl, hq⟩ := list_of n fun i hi => h i (by omega)
    obtain ⟨x, hx⟩ := h n (by omega)
    refine ⟨l ++ [x], by simp [hl], fun i y hy => ?_⟩
    by_cases hi : i < n
    · rw [List.getElem?_append_left (by omega)] at hy; exact hq i y hy
    · have : i = n := by
        have := (List.getElem?_eq_some_iff.1 hy).1
        simp at this; omega
      subst this
      rw [List.getElem?_append_right (by omega)] at hy
      simp [hl] at hy
      rw [← hy]; exact hx
end
section
variable {H : Type} {enc : TypeId × Value → H} {W : World} {base : Nat} {v : Value} {d : DataW H} {p : List MemPlace} {n : Nat} {x : DataW H × List MemPlace}
theorem ll_of (hf : DataW.trod enc Tryd.prog W 0 (fun _ => true) true n 23 [v] = some x) : ∃ ls, LL W v ls := by
  rcases Go.Deep.open_slice Tryd.underlying23 hf with ⟨hcs, -⟩ | ⟨a, len, cap, m, n, D, Pl, hcs, _, hl, hm, hmm, _, hi⟩
  · obtain rfl : v = .slice none 0 0 := by simpa using hcs
    exact ⟨[], LL.nil W⟩
  · obtain rfl : v = .slice (some a) len cap := by simpa using hcs
    simp only [if_true] at hmm
    subst hmm
    obtain ⟨ls, hll, hq⟩ : ∃ ls : List (List UInt8), ls.length = len ∧ ∀ i l, ls[i]? = some l → ∃ g o x, some a = some ⟨g, o, none⟩ ∧ W.cell? ⟨g, o + i, none⟩ = some x ∧ Bytes W x l := list_of len fun i hil => by
      obtain ⟨cs', hc, ht⟩ := hi i (by omega)
      rw [cellsBs] at hc
      obtain ⟨-, hlen, hat⟩ := World.cells?_some hc
      match cs', hlen with
      | [u], _ =>
        obtain ⟨l, hb⟩ := bytes_of ht
        have h1 := hat 0 (by omega)
        obtain ⟨cs0, hc0, -⟩ := hi 0 (by omega)
        rw [cellsBs] at hc0
        obtain ⟨-, hl0, hat0⟩ := World.cells?_some hc0
        have hat00 := hat0 0 (by omega)
        rw [Nat.zero_mul, Addr.add_zero', Addr.add_zero', List.getElem?_eq_getElem (by omega)] at hat00
        obtain ⟨g', o', rfl⟩ := sel_none hat00
        refine ⟨l, g', o', u, rfl, ?_, hb⟩
        rw [Addr.add_lit, Addr.add_lit] at h1
        rw [show o' + i * 1 + 0 = o' + i by omega] at h1
        exact h1
    exact ⟨ls, some a, m, by rw [hll], by omega, hm, fun h => (by cases h), fun j l hj => hq j l hj⟩
theorem open_ll (hval : Value.okWide Tryd.prog W .any base 23 v) (h : DataW.Trod enc Tryd.prog W 0 (fun _ => true) true 23 v d p) : ∃ ls, LL W v ls := by
  obtain ⟨a0, len0, cap0, rfl⟩ := okWide_slice Tryd.underlying23 hval
  obtain ⟨fuel, hf⟩ := h
  exact ll_of (n := fuel) (x := (d, p)) hf
end
end Go.Proofs.YtmpjcnopakfdmaaDoor
