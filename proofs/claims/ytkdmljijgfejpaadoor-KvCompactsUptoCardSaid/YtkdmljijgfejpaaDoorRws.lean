/- How slices of structs are opened; texts and slices of texts. -/
import Derived.Test.YtkdmljijgfejpaaDoorLift
import Derived.Test.YtkdmljijgfejpaaDoorStr
import Derived.Test.YtkdmljijgfejpaaDoorSeq
import Derived.Deep.MidRow
import Derived.Deep.Grids
import Derived.SliceStrings
import Derived.ChangeMaps5
namespace Go.Proofs.YtkdmljijgfejpaaDoor
set_option linter.unusedVariables false
set_option linter.unusedSimpArgs false
open Go.ChangeShapes Go.WideShapes Go.ChangeAt Go.RowKit
set_option maxRecDepth 20000

theorem sel_none {W : World} {a : Addr} {u : Value} (h : W.cell? a = some u) : ∃ g o, a = ⟨g, o, none⟩ := by
  obtain ⟨g, o, s⟩ := a
  cases s with
  | none => exact ⟨g, o, rfl⟩
  | some s =>
    have : W.cell? ⟨g, o, some s⟩ = none := by
      unfold World.cell?
      cases W.heap[(⟨g, o, some s⟩ : Addr).block]? with
      | none => rfl
      | some ob => cases ob <;> simp
    rw [this] at h; simp at h
theorem list_of {α : Type} {Q : Nat → α → Prop} : ∀ (n : Nat), (∀ i, i < n → ∃ x, Q i x) → ∃ l : List α, l.length = n ∧ ∀ i x, l[i]? = some x → Q i x
  | 0, _ => ⟨[], rfl, fun i x h => by simp at h⟩
  | n + 1, h => by
    obtain ⟨l, hl, hq⟩ := list_of n fun i hi => h i (by omega)
    obtain ⟨x, hx⟩ := h n (by omega)
    refine ⟨l ++ [x], by simp [hl], fun i y hy => ?_⟩
    by_cases hi : i < n
    · rw [List.getElem?_append_left (by omega)] at hy; exact hq i y hy
    · have : i = n := by
        have := (List.getElem?_eq_some_iff.1 hy).1
        simp at this; omega
      subst this
      rw [List.getElem?_append_right (by omega)] at hy
      simp [hl] at hy
      rw [← hy]; exact hx
/-- a slice whose elements take k cells each, as C says of each -/
def Rw {α : Type} (k : Nat) (C : α → List Value → Prop) (w : World) (v : Value) (l : List α) : Prop :=
  ∃ a cap, v = .slice a l.length cap ∧ l.length ≤ cap ∧ cap ≤ maxLen ∧ (a = none → cap = 0) ∧ ∀ j x, l[j]? = some x → ∃ g o cs, a = some ⟨g, o, none⟩ ∧ cs.length = k ∧ w.rangeAt g (o + j * k) cs ∧ C x cs
theorem Rw.nil {α : Type} (k : Nat) (C : α → List Value → Prop) (w : World) : Rw k C w (.slice none 0 0) [] := ⟨none, 0, rfl, Nat.le_refl _, by simp [maxLen], fun _ => rfl, fun j x h => by simp at h⟩
theorem Rw.ext {α : Type} {k : Nat} {C D : α → List Value → Prop} {w w' : World} {v : Value} {l : List α} (h : Rw k C w v l) (e : Ext w w') (hc : ∀ x cs, x ∈ l → C x cs → D x cs) : Rw k D w' v l := by
  obtain ⟨a, cap, h1, h2, h3, h4, h5⟩ := h
  refine ⟨a, cap, h1, h2, h3, h4, fun j x hj => ?_⟩
  obtain ⟨g, o, cs, k1, k2, k3, k4⟩ := h5 j x hj
  exact ⟨g, o, cs, k1, k2, fun i u hu => e.cell (k3 i u hu), hc x cs (List.mem_of_getElem? hj) k4⟩
section
variable {H : Type} {enc : TypeId × Value → H} {W : World} {base : Nat} {v : Value} {d : DataW H} {p : List MemPlace} {x : DataW H × List MemPlace}
theorem rows_of {α : Type} {k n : Nat} {C : α → List Value → Prop} {t e : TypeId} (ht : Tryd.prog.underlying t = some (.slice e)) (hk : Tryd.prog.cellsOf e = k) (hk0 : 0 < k)
    (he : ∀ m cs y, cs.length = k → DataW.trod enc Tryd.prog W 0 (fun _ => true) true m e cs = some y → ∃ x, C x cs) (hf : DataW.trod enc Tryd.prog W 0 (fun _ => true) true n t [v] = some x) : ∃ l, Rw k C W v l := by
  rcases Go.Deep.open_slice ht hf with ⟨hcs, -⟩ | ⟨a, len, cap, m, n, D, Pl, hcs, _, hl, hm, hmm, _, hi⟩
  · obtain rfl : v = .slice none 0 0 := by simpa using hcs
    exact ⟨[], Rw.nil k C W⟩
  · obtain rfl : v = .slice (some a) len cap := by simpa using hcs
    simp only [if_true] at hmm
    subst hmm
    obtain ⟨l, hll, hq⟩ : ∃ l : List α, l.length = len ∧ ∀ i x, l[i]? = some x → ∃ g o cs, some a = some ⟨g, o, none⟩ ∧ cs.length = k ∧ W.rangeAt g (o + i * k) cs ∧ C x cs := list_of len fun i hil => by
      obtain ⟨cs', hc, ht⟩ := hi i (by omega)
      rw [hk] at hc
      obtain ⟨-, hl', hat⟩ := World.cells?_some hc
      obtain ⟨q, hq⟩ := he _ cs' _ hl' ht
      obtain ⟨cs0, hc0, -⟩ := hi 0 (by omega)
      rw [hk] at hc0
      obtain ⟨-, hl0, hat0⟩ := World.cells?_some hc0
      have hat00 := hat0 0 (by omega)
      rw [Nat.zero_mul, Addr.add_zero', Addr.add_zero', List.getElem?_eq_getElem (by omega)] at hat00
      obtain ⟨g', o', rfl⟩ := sel_none hat00
      refine ⟨q, g', o', cs', rfl, hl', fun j u hu => ?_, hq⟩
      have hj : j < k := by
        have := (List.getElem?_eq_some_iff.1 hu).1
        omega
      have := hat j hj
      rw [Addr.add_mid, Addr.add_mid, hu] at this
      exact this
    exact ⟨l, some a, m, by rw [hll], by omega, hm, fun h => by simp at h, hq⟩
def sv (l : List UInt8) : Value := .string (str l)
/-- a text that is not too long -/
def fit (l : List UInt8) : Prop := l.length ≤ 9223372036854775807
theorem cellsS : Tryd.prog.cellsOf 9 = 1 := by kernel_rfl
theorem str_of {n : Nat} {cs : List Value} (h : DataW.trod enc Tryd.prog W 0 (fun _ => true) true n 9 cs = some x) : ∃ l, fit l ∧ cs = [.string (str l)] := by
  obtain ⟨s, h1, -, h3⟩ := DataW.trod_string Tryd.underlying9 h
  refine ⟨s.data.toList, ?_, h1⟩
  have : s.data.toList.length = s.size := rfl
  unfold maxLen at h3; unfold fit; omega
theorem open_str (hval : Value.okWide Tryd.prog W .any base 9 v) (h : DataW.Trod enc Tryd.prog W 0 (fun _ => true) true 9 v d p) : ∃ l : List UInt8, l.length ≤ 9223372036854775807 ∧ v = .string (str l) := by
  obtain ⟨s, rfl, _, _, hs⟩ := Go.ChangeMaps.open_string Tryd.underlying9 hval h
  refine ⟨s.data.toList, ?_, rfl⟩
  have : s.data.toList.length = s.size := rfl
  unfold maxLen at hs; omega
/-- a slice of texts that is read; none is too long -/
def Txs (w : World) (v : Value) (l : List (List UInt8)) : Prop := Sl sv w v l ∧ ∀ x ∈ l, fit x
theorem Txs.ext {w w' : World} {v : Value} {l : List (List UInt8)} (h : Txs w v l) (e : Ext w w') : Txs w' v l := ⟨h.1.ext e, h.2⟩
theorem okw_slice {t e : TypeId} (ht : Tryd.prog.underlying t = some (.slice e)) (hval : Value.okWide Tryd.prog W .any base t v) (h : DataW.Trod enc Tryd.prog W 0 (fun _ => true) true t v d p) : ∃ n x, DataW.trod enc Tryd.prog W 0 (fun _ => true) true n t [v] = some x := by
  obtain ⟨a0, len0, cap0, rfl⟩ := okWide_slice ht hval
  obtain ⟨fuel, hf⟩ := h
  exact ⟨fuel, _, by simpa [Value.cells] using hf⟩
end
end Go.Proofs.YtkdmljijgfejpaaDoor
