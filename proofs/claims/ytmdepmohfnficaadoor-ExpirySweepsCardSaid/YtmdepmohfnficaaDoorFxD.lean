/- The document's expiry: which policies can be, whether a record lives. -/
import Derived.Test.YtmdepmohfnficaaDoorFxC
import Derived.Test.YtmdepmohfnficaaDoorTrE1
namespace Go.Proofs.YtmdepmohfnficaaDoor
set_option linter.unusedVariables false
set_option linter.unusedSimpArgs false
open Go.ChangeShapes Go.WideShapes Go.ChangeAt Go.RowKit Rk Tr

set_option maxRecDepth 20000
def tmI (n : Int) : Bool := decide (0 ≤ n) && decide (n ≤ 1099511627776)
theorem time_any (n : Int) (w : World) :
    Calls Tryd.prog 16 #[.int .i64 n] w fun e w' => e = .returned (.bool (tmI n)) ∧ w = w' := by
  by_cases h : 0 ≤ n
  · have d : decide (0 ≤ n) = true := decide_eq_true h
    have ht : RowKit.Hid (tmI n = decide (n ≤ 1099511627776)) := Lib.hid (by unfold tmI; rw [d]; rfl)
    clear h
    go_enter Tryd.func16, Tryd.ntmps16
    go_wp2
    go_ret
    exact ⟨by rw [ht.out]; rfl, rfl⟩
  · have d : decide (0 ≤ n) = false := decide_eq_false h
    have ht : RowKit.Hid (tmI n = false) := Lib.hid (by unfold tmI; rw [d]; rfl)
    clear h
    go_enter Tryd.func16, Tryd.ntmps16
    go_wp2
    go_ret
    exact ⟨by rw [ht.out]; rfl, rfl⟩
/-- can a policy be? -/
def okP (f : Nat → Int) (j : Nat) : Prop := 0 ≤ f j ∧ 0 ≤ f (7 + j) ∧ 0 ≤ f (14 + j) ∧ f j ≤ 1099511627776 ∧ f (7 + j) ≤ 1099511627776 ∧ f (14 + j) ≤ 1099511627776
instance (f : Nat → Int) (j : Nat) : Decidable (okP f j) := by unfold okP; infer_instance
def rightP (f : Nat → Int) : Bool := (List.range 7).all fun j => decide (okP f j)
theorem rightP_iff {f : Nat → Int} : rightP f = true ↔ ∀ j, j < 7 → okP f j := by simp [rightP]
theorem rightP_no {f : Nat → Int} {j : Nat} (hj : j < 7) (h : f j < 0 ∨ f (7 + j) < 0 ∨ f (14 + j) < 0 ∨ 1099511627776 < f j ∨ 1099511627776 < f (7 + j) ∨ 1099511627776 < f (14 + j)) : rightP f = false := by
  rw [← Bool.not_eq_true, rightP_iff]
  intro k
  have := k j hj
  unfold okP at this
  omega
theorem rightP_yes {f : Nat → Int} (h : ∀ j, j < 7 → 0 ≤ f j ∧ 0 ≤ f (7 + j) ∧ 0 ≤ f (14 + j) ∧ f j ≤ 1099511627776 ∧ f (7 + j) ≤ 1099511627776 ∧ f (14 + j) ≤ 1099511627776) : rightP f = true := rightP_iff.2 h
theorem rightP_ge {f : Nat → Int} (h : rightP f = true) {j : Nat} (hj : j < 7) : 0 ≤ f j ∧ 0 ≤ f (7 + j) ∧ 0 ≤ f (14 + j) := by
  have := rightP_iff.1 h j hj
  unfold okP at this
  omega
section
variable {W : World} {base : Nat} {v : Value}
theorem types_pol : Tryd.prog.cellTypes Tryd.prog.depth 25 = some (List.replicate 21 3) := by kernel_rfl
theorem int_cell {u : Value} (h : Cell.okWide Tryd.prog W .any base 3 u) : ∃ n, u = .int .i64 n := by
  simp only [Cell.okWide, Tryd.underlying3] at h
  cases u <;> simp_all [Cell.ok, Tryd.underlying3]
theorem open_pol (hval : Value.okWide Tryd.prog W .any base 25 v) : ∃ f : Nat → Int, v = .agg (pcA f) := by
  simp only [Value.okWide, Tryd.underlying25] at hval
  obtain ⟨cs, rfl, hs, ts, ht, -, hc⟩ := hval
  have hs21 : cs.size = 21 := by rw [hs]; kernel_rfl
  rw [types_pol] at ht
  obtain rfl := Option.some.inj ht
  refine ⟨fun j => intOf (cs.getD j undef), congrArg Value.agg ?_⟩
  apply Array.ext_getElem?
  intro j
  by_cases hj : j < 21
  · rw [pcA_at _ hj]
    have hjs : j < cs.size := by omega
    obtain ⟨t', h1, h2⟩ := hc j cs[j] (Array.getElem?_eq_getElem hjs)
    have ht' : t' = 3 := by
      have h3 : (List.replicate 21 3)[j % 21]? = some 3 := by rw [List.getElem?_replicate, if_pos (Nat.mod_lt _ (by decide))]
      exact Option.some.inj (h1.symm.trans h3)
    rw [ht'] at h2
    obtain ⟨n, hn⟩ := int_cell h2
    rw [Array.getElem?_eq_getElem hjs]
    simp only [Array.getD, hjs, dif_pos]
    rw [show cs.getInternal j hjs = cs[j] from rfl, hn]
    rfl
  · rw [Array.getElem?_eq_none (by omega), Array.getElem?_eq_none (by rw [pcA_size]; omega)]
end
attribute [local irreducible] pcA rcells
set_option maxRecDepth 20000 in
set_option maxHeartbeats 2000000 in
theorem refRightP_any (f : Nat → Int) (w : World) :
    Calls Tryd.prog 14 #[.agg (pcA f)] w fun e w' => e = .returned (.bool (rightP f)) ∧ Ext w w' := by
  have hp := heap_alloc_new w (.cells (pcA f) 25)
  have hcell := Lib.hid (fun j (hj : j < 21) => ((cell_of_row _ w.heap.size j _ _ _ hp).trans (pcA_at f hj) : (w.alloc (.cells (pcA f) 25)).cell? ⟨w.heap.size, j, none⟩ = some (.int .i64 (f j))))
  have e1 := Lib.hid ((Ext.refl w).alloc (.cells (pcA f) 25))
  clear hp
  go_enter Tryd.func14, Tryd.ntmps14
  go_wp2
  go_loop [3] (fun i => ∃ j : Nat, j ≤ 7 ∧ i = .int .i64 (j : Int) ∧ RowKit.Hid (∀ q, q < j → 0 ≤ f q ∧ 0 ≤ f (7 + q) ∧ 0 ≤ f (14 + q) ∧ f q ≤ 1099511627776 ∧ f (7 + q) ≤ 1099511627776 ∧ f (14 + q) ≤ 1099511627776)) (fun i => 7 - (intOf i).toNat)
  case atStart => exact ⟨0, Nat.zero_le _, rfl, Lib.hid fun q h => by omega⟩
  case round =>
    obtain ⟨j, hj, rfl, hq⟩ := hrel
    by_cases hlt : j < 7
    · have hji : (j : Int) < 7 := by omega
      have hw : IntKind.i64.wrap ((j : Int) + 1) = (j : Int) + 1 := by rw [IntKind.wrap_i64]; omega
      have c1 := hcell.out j (by omega)
      have c2 := hcell.out (7 + j) (by omega)
      have c3 := hcell.out (14 + j) (by omega)
      by_cases ha1 : (f j) < 0
      · have da1 : decide ((f j) < 0) = true := decide_eq_true ha1
        have hno := Lib.hid (rightP_no (f := f) (j := j) (by omega) (by omega))
        clear ha1
        go_wp2
        go_ret
        exact ⟨by rw [hno.out]; rfl, e1.out⟩
      have da1 : decide ((f j) < 0) = false := decide_eq_false ha1
      by_cases ha2 : (f (7 + j)) < 0
      · have da2 : decide ((f (7 + j)) < 0) = true := decide_eq_true ha2
        have hno := Lib.hid (rightP_no (f := f) (j := j) (by omega) (by omega))
        clear ha2
        clear ha1
        go_wp2
        go_ret
        exact ⟨by rw [hno.out]; rfl, e1.out⟩
      have da2 : decide ((f (7 + j)) < 0) = false := decide_eq_false ha2
      by_cases ha3 : (f (14 + j)) < 0
      · have da3 : decide ((f (14 + j)) < 0) = true := decide_eq_true ha3
        have hno := Lib.hid (rightP_no (f := f) (j := j) (by omega) (by omega))
        clear ha3
        clear ha1 ha2
        go_wp2
        go_ret
        exact ⟨by rw [hno.out]; rfl, e1.out⟩
      have da3 : decide ((f (14 + j)) < 0) = false := decide_eq_false ha3
      by_cases hb1 : (1099511627776 : Int) < f j
      · have db1 : decide ((1099511627776 : Int) < f j) = true := decide_eq_true hb1
        have hno := Lib.hid (rightP_no (f := f) (j := j) (by omega) (by omega))
        clear hb1
        clear ha1 ha2 ha3
        go_wp2
        go_ret
        exact ⟨by rw [hno.out]; rfl, e1.out⟩
      have db1 : decide ((1099511627776 : Int) < f j) = false := decide_eq_false hb1
      by_cases hb2 : (1099511627776 : Int) < f (7 + j)
      · have db2 : decide ((1099511627776 : Int) < f (7 + j)) = true := decide_eq_true hb2
        have hno := Lib.hid (rightP_no (f := f) (j := j) (by omega) (by omega))
        clear hb2
        clear ha1 ha2 ha3 hb1
        go_wp2
        go_ret
        exact ⟨by rw [hno.out]; rfl, e1.out⟩
      have db2 : decide ((1099511627776 : Int) < f (7 + j)) = false := decide_eq_false hb2
      by_cases hb3 : (1099511627776 : Int) < f (14 + j)
      · have db3 : decide ((1099511627776 : Int) < f (14 + j)) = true := decide_eq_true hb3
        have hno := Lib.hid (rightP_no (f := f) (j := j) (by omega) (by omega))
        clear hb3
        clear ha1 ha2 ha3 hb1 hb2
        go_wp2
        go_ret
        exact ⟨by rw [hno.out]; rfl, e1.out⟩
      have db3 : decide ((1099511627776 : Int) < f (14 + j)) = false := decide_eq_false hb3
      have hq2 := Lib.hid (fun q (hqj : q < j + 1) => (if e : q = j then by subst e; omega else hq.out q (by omega) : 0 ≤ f q ∧ 0 ≤ f (7 + q) ∧ 0 ≤ f (14 + q) ∧ f q ≤ 1099511627776 ∧ f (7 + q) ≤ 1099511627776 ∧ f (14 + q) ≤ 1099511627776))
      clear ha1 ha2 ha3 hb1 hb2 hb3
      go_wp2
      go_round
      case rel => exact ⟨j + 1, by omega, by go_num, hq2⟩
      case measure => simp [intOf]; omega
    · obtain rfl : j = 7 := by omega
      have hyes := Lib.hid (rightP_yes hq.out)
      go_wp2
      go_ret
      exact ⟨by rw [hyes.out]; rfl, e1.out⟩
end Go.Proofs.YtmdepmohfnficaaDoor
