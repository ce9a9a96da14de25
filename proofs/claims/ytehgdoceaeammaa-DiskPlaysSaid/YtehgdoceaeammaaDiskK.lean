/- What is done, as cells: how a slice of it is opened. -/
import Derived.Test.YtehgdoceaeammaaDiskJ
import Derived.Test.YtehgdoceaeammaaOpen
import Derived.Deep.Grids
namespace Go.Proofs.Ytehgdoceaeammaa
open Go.ChangeShapes Go.WideShapes Go.ChangeAt Go.RowKit
structure Dop where
  what : Int
  place : Int
  bs : List UInt8
  ps : List Bool
def DopAt (w : World) (g o : Nat) (x : Dop) (vb vp : Value) : Prop :=
  w.rangeAt g o [.int .i64 x.what, .int .i64 x.place, vb, vp] ∧ Bytes w vb x.bs ∧ Sl bv w vp x.ps ∧ -9223372036854775808 ≤ x.place ∧ x.place ≤ 9223372036854775807
def Ops (w : World) (v : Value) (l : List Dop) : Prop := ∃ a cap, v = .slice a l.length cap ∧ l.length ≤ cap ∧ cap ≤ maxLen ∧ (∀ j x, l[j]? = some x → ∃ g o, a = some ⟨g, o, none⟩ ∧ ∃ vb vp, DopAt w g (o + 4 * j) x vb vp)
theorem cells8' : Try.prog.cellsOf 5 = 1 := by kernel_rfl
theorem cellsB' : Try.prog.cellsOf 4 = 1 := by kernel_rfl
theorem cellsOp : Try.prog.cellsOf 49 = 4 := by kernel_rfl
theorem cellsBs : Try.prog.cellsOf 22 = 1 := by kernel_rfl
theorem cellsPs : Try.prog.cellsOf 38 = 1 := by kernel_rfl
theorem cellsI' : Try.prog.cellsOf 3 = 1 := by kernel_rfl
theorem sel_none {W : World} {a : Addr} {u : Value} (h : W.cell? a = some u) : ∃ g o, a = ⟨g, o, none⟩ := by
  obtain ⟨g, o, s⟩ := a
  cases s with
  | none => exact ⟨g, o, rfl⟩
  | some s =>
    have : W.cell? ⟨g, o, some s⟩ = none := by
      unfold World.cell?
      cases W.heap[(⟨g, o, some s⟩ : Addr).block]? with
      | none => rfl
      | some ob => cases ob <;> simp
    rw [this] at h; simp at h
section
variable {H : Type} {enc : TypeId × Value → H} {W : World} {n : Nat} {v : Value} {x : DataW H × List MemPlace}
theorem bytes_of (hf : DataW.trod enc Try.prog W 0 (fun _ => true) true n 22 [v] = some x) : ∃ l, Bytes W v l := by
  rcases open_ints Try.underlying22 Try.underlying5 cells8' hf with ⟨hcs, hx⟩ | ⟨a, len, cap, zs, hcs, _, hl, hm, hz, hx, hcell, hwz⟩
  · obtain rfl : v = .slice none 0 0 := by simpa using hcs
    exact ⟨[], Bytes.nil W⟩
  · obtain rfl : v = .slice (some a) len cap := by simpa using hcs
    simp only [if_true] at hz
    refine ⟨u8s (zs.take len), some a, cap, ?_, ?_, hm, fun h => by simp at h, fun j hj => ?_⟩
    · simp [u8s, hz, Nat.min_eq_left hl]
    · simp [u8s, hz, Nat.min_eq_left hl, hl]
    · have hj' : j < len := by simpa [u8s, hz, Nat.min_eq_left hl] using hj
      have hc := hcell j (by omega)
      obtain ⟨g, o, rfl⟩ : ∃ g o, a = ⟨g, o, none⟩ := sel_none (hcell 0 (by omega))
      refine ⟨g, o, rfl, ?_⟩
      rw [Addr.add_lit] at hc
      rw [hc]
      have hw := hwz (zs.getD j 0) (by
        have : j < zs.length := by omega
        simp [List.getD, this])
      have e : (u8s (zs.take len))[j] = UInt8.ofNat (zs.getD j 0).toNat := by
        have : j < zs.length := by omega
        simp [u8s, List.getD, this]
      rw [e, u8_of hw]
theorem bls_of (hf : DataW.trod enc Try.prog W 0 (fun _ => true) true n 38 [v] = some x) : ∃ l, Sl bv W v l := by
  rcases Go.Deep.open_bools Try.underlying38 Try.underlying4 cellsB' hf with ⟨hcs, hx⟩ | ⟨a, len, cap, B, hcs, _, hl, hm, hx, hcell⟩
  · obtain rfl : v = .slice none 0 0 := by simpa using hcs
    exact ⟨[], Sl.nil W⟩
  · obtain rfl : v = .slice (some a) len cap := by simpa using hcs
    have hlen : ((List.range len).map B).length = len := by simp
    refine ⟨(List.range len).map B, some a, cap, by rw [hlen], by rw [hlen]; exact hl, hm, fun h => by simp at h, fun j x hj => ?_⟩
    have hj' : j < len := by rw [← hlen]; exact (List.getElem?_eq_some_iff.1 hj).1
    have h0 := hcell 0 (by omega)
    have hc := hcell j (by omega)
    obtain ⟨g, o, rfl⟩ : ∃ g o, a = ⟨g, o, none⟩ := sel_none h0
    refine ⟨g, o, rfl, ?_⟩
    rw [Addr.add_lit] at hc
    rw [hc]
    rw [List.getElem?_map, List.getElem?_range hj'] at hj
    simp only [Option.map_some, Option.some.injEq] at hj
    rw [← hj]; rfl
theorem op_of {cs : List Value} (hf : DataW.trod enc Try.prog W 0 (fun _ => true) true n 49 cs = some x) :
    ∃ (q : Dop) (vb vp : Value), cs = [.int .i64 q.what, .int .i64 q.place, vb, vp] ∧ Bytes W vb q.bs ∧ Sl bv W vp q.ps ∧ -9223372036854775808 ≤ q.place ∧ q.place ≤ 9223372036854775807 := by
  obtain ⟨xs, m, _, _, hl, hn, h⟩ := DataW.trod_struct Try.underlying49 hf
  rw [cellsOp] at hl
  match cs, hl with
  | [c0, c1, c2, c3], _ =>
    have hn4 : xs.length = 4 := hn
    match xs, hn4 with
    | [y0, y1, y2, y3], _ =>
      have h0 : DataW.trod enc Try.prog W 0 (fun _ => true) true m 3 (([c0, c1, c2, c3].drop 0).take (Try.prog.cellsOf 3)) = [y0, y1, y2, y3][0]? := h 0 _ rfl
      have h1 : DataW.trod enc Try.prog W 0 (fun _ => true) true m 3 (([c0, c1, c2, c3].drop 1).take (Try.prog.cellsOf 3)) = [y0, y1, y2, y3][1]? := h 1 _ rfl
      have h2 : DataW.trod enc Try.prog W 0 (fun _ => true) true m 22 (([c0, c1, c2, c3].drop 2).take (Try.prog.cellsOf 22)) = [y0, y1, y2, y3][2]? := h 2 _ rfl
      have h3 : DataW.trod enc Try.prog W 0 (fun _ => true) true m 38 (([c0, c1, c2, c3].drop 3).take (Try.prog.cellsOf 38)) = [y0, y1, y2, y3][3]? := h 3 _ rfl
      simp only [cellsBs, cellsPs, cellsI', List.drop_zero, List.drop_succ_cons, List.take_succ_cons, List.take_zero, List.getElem?_cons_zero, List.getElem?_cons_succ] at h0 h1 h2 h3
      obtain ⟨n0, e0, -, -⟩ := DataW.trod_int Try.underlying3 h0
      obtain ⟨n1, e1, -, hw⟩ := DataW.trod_int Try.underlying3 h1
      obtain ⟨l2, hb⟩ := bytes_of h2
      obtain ⟨l3, hp⟩ := bls_of h3
      obtain rfl : c0 = .int .i64 n0 := by simpa using e0
      obtain rfl : c1 = .int .i64 n1 := by simpa using e1
      have hr : -9223372036854775808 ≤ n1 ∧ n1 ≤ 9223372036854775807 := by
        simp [Lit.wf, IntKind.min, IntKind.max, IntKind.signed, IntKind.bits] at hw
        omega
      exact ⟨⟨n0, n1, l2, l3⟩, c2, c3, rfl, hb, hp, hr.1, hr.2⟩
end
section
variable {H : Type} {enc : TypeId × Value → H} {W : World} {base : Nat} {v : Value} {d : DataW H} {p : List MemPlace}
theorem list_of {α : Type} {Q : Nat → α → Prop} : ∀ (n : Nat), (∀ i, i < n → ∃ x, Q i x) → ∃ l : List α, l.length = n ∧ ∀ i x, l[i]? = some x → Q i x
  | 0, _ => ⟨[], rfl, fun i x h => by simp at h⟩
  | n + 1, h => by
    obtain ⟨l, hl, hq⟩ := list_of n fun i hi => h i (by omega)
    obtain ⟨x, hx⟩ := h n (by omega)
    refine ⟨l ++ [x], by simp [hl], fun i y hy => ?_⟩
    by_cases hi : i < n
    · rw [List.getElem?_append_left (by omega)] at hy; exact hq i y hy
    · have : i = n := by
        have := (List.getElem?_eq_some_iff.1 hy).1
        simp at this; omega
      subst this
      rw [List.getElem?_append_right (by omega)] at hy
      simp [hl] at hy
      rw [← hy]; exact hx
theorem open_ops (hval : Value.okWide Try.prog W .any base 32 v) (h : DataW.Trod enc Try.prog W 0 (fun _ => true) true 32 v d p) : ∃ l, Ops W v l := by
  obtain ⟨a0, len0, cap0, rfl⟩ := okWide_slice Try.underlying32 hval
  obtain ⟨fuel, hf⟩ := h
  rcases Go.Deep.open_slice Try.underlying32 hf with ⟨hcs, -⟩ | ⟨a, len, cap, m, n, D, Pl, hcs, _, hl, hm, hmm, _, hi⟩
  · simp [Value.cells] at hcs
    obtain ⟨rfl, rfl, rfl⟩ := hcs
    exact ⟨[], none, 0, rfl, Nat.le_refl _, by simp [maxLen], fun j x h => by simp at h⟩
  · simp [Value.cells] at hcs
    obtain ⟨rfl, rfl, rfl⟩ := hcs
    simp only [if_true] at hmm
    subst hmm
    obtain ⟨l, hll, hq⟩ : ∃ l : List Dop, l.length = len0 ∧ ∀ i x, l[i]? = some x → ∃ g o, some a = some ⟨g, o, none⟩ ∧ ∃ vb vp, DopAt W g (o + 4 * i) x vb vp := list_of len0 fun i hil => by
      obtain ⟨cs', hc, ht⟩ := hi i (by omega)
      obtain ⟨q, vb, vp, rfl, hb, hp, r1, r2⟩ := op_of ht
      rw [cellsOp] at hc
      obtain ⟨-, -, hat⟩ := World.cells?_some hc
      obtain ⟨cs0, hc0, -⟩ := hi 0 (by omega)
      rw [cellsOp] at hc0
      obtain ⟨-, hl0, hat0⟩ := World.cells?_some hc0
      have hat00 := hat0 0 (by omega)
      rw [Nat.zero_mul, Addr.add_zero', Addr.add_zero', List.getElem?_eq_getElem (by omega)] at hat00
      obtain ⟨g', o', rfl⟩ := sel_none hat00
      refine ⟨q, g', o', rfl, vb, vp, fun j u hu => ?_, hb, hp, r1, r2⟩
      have hj : j < 4 := (List.getElem?_eq_some_iff.1 hu).1
      have := hat j hj
      rw [Addr.add_mid, Addr.add_mid, hu] at this
      rw [← this, Nat.mul_comm 4 i]
    exact ⟨l, some a, m, by rw [hll], by omega, hm, hq⟩
end
theorem Ops.ext {w w' : World} {v : Value} {l : List Dop} (h : Ops w v l) (e : Ext w w') : Ops w' v l := by
  obtain ⟨a, cap, h1, h2, h3, h4⟩ := h
  refine ⟨a, cap, h1, h2, h3, fun j x hj => ?_⟩
  obtain ⟨g, o, ha, vb, vp, hr, hb, hp, r⟩ := h4 j x hj
  exact ⟨g, o, ha, vb, vp, fun k u hu => e.cell (hr k u hu), hb.ext e, hp.ext e, r⟩
end Go.Proofs.Ytehgdoceaeammaa
