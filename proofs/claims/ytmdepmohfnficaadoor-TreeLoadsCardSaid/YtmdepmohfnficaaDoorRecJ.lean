/- Plain facts for the document's Decode: a number read byte by byte. -/
import Derived.Test.YtmdepmohfnficaaDoorRecD
namespace Go.Proofs.YtmdepmohfnficaaDoor
open Go.RowKit Rk
namespace Rk
theorem beN_take (l : List UInt8) (j : Nat) (h : j < l.length) : beN (l.take (j + 1)) = 256 * beN (l.take j) + (l.getD j 0).toNat := by
  rw [List.take_add_one, List.getElem?_eq_getElem h, Option.toList_some, beN_snoc]
  simp [List.getD, h]
theorem beN_small {l : List UInt8} (h : l.length = 8) (h0 : (l.getD 0 0).toNat = 0) (h1 : (l.getD 1 0).toNat = 0) (j : Nat) (hj : j ≤ 7) : beN (l.take j) < 2 ^ 40 := by
  obtain ⟨a, b, c, d, e, f, g, i, rfl⟩ := eight_of h
  simp only [List.getD_cons_zero, List.getD_cons_succ] at h0 h1
  have := c.toNat_lt
  have := d.toNat_lt
  have := e.toNat_lt
  have := f.toNat_lt
  have := g.toNat_lt
  have hc : j = 0 ∨ j = 1 ∨ j = 2 ∨ j = 3 ∨ j = 4 ∨ j = 5 ∨ j = 6 ∨ j = 7 := by omega
  rcases hc with rfl | rfl | rfl | rfl | rfl | rfl | rfl | rfl <;> simp only [beN, List.take_zero, List.take_succ_cons, List.foldl_cons, List.foldl_nil] <;> omega
/-- a record while its numbers are read -/
def stR (name s : List UInt8) (j : Nat) : Rec := ⟨((byteAt s 0).toNat : Int), name, [], [], [], [], (beN (((s.drop 3).take 8).take j) : Int), (beN (((s.drop 11).take 8).take j) : Int), ((byteAt s 1).toNat : Int), ((byteAt s 2).toNat : Int) == 1⟩
theorem rc_made (r : Rec) (x : Int) : (rcells r).setIfInBounds 6 (.int .i64 x) = rcells { r with made := x } := rfl
theorem rc_used (r : Rec) (x : Int) : (rcells r).setIfInBounds 7 (.int .i64 x) = rcells { r with used := x } := rfl
theorem wrap2 (y c : Nat) (hy : y < 1099511627776) (hc : c < 256) : wrap64 (wrap64 (256 * (y : Int)) + (c : Int)) = ((256 * y + c : Nat) : Int) := by
  have e : wrap64 (256 * (y : Int)) = 256 * (y : Int) := by rw [wrap64]; omega
  rw [e, wrap64]; omega
theorem tk8 (s : List UInt8) (a q : Nat) (h : q < 8) : ((s.drop a).take 8).getD q 0 = s.getD (a + q) 0 := by
  rw [List.getD_eq_getElem?_getD, List.getD_eq_getElem?_getD, List.getElem?_take, if_pos h, List.getElem?_drop]
/-- the two numbers of a round, and of the next one -/
theorem dec_round (name s : List UInt8) (hf : few2 s) (j : Nat) (hj : j < 8) : ∃ y3 y11 : Nat, y3 < 1099511627776 ∧ y11 < 1099511627776 ∧
    stR name s j = { stR name s 0 with made := (y3 : Int), used := (y11 : Int) } ∧
    stR name s (j + 1) = { stR name s 0 with made := ((256 * y3 + (byteAt s (3 + j)).toNat : Nat) : Int), used := ((256 * y11 + (byteAt s (11 + j)).toNat : Nat) : Int) } := by
  obtain ⟨f1, f2, f3, f4, f11, f12⟩ := hf
  have l3 : ((s.drop 3).take 8).length = 8 := by simp; omega
  have l11 : ((s.drop 11).take 8).length = 8 := by simp; omega
  have m3 := beN_small l3 (by rw [tk8 _ _ _ (by omega)]; exact f3) (by rw [tk8 _ _ _ (by omega)]; exact f4) j (by omega)
  have m11 := beN_small l11 (by rw [tk8 _ _ _ (by omega)]; exact f11) (by rw [tk8 _ _ _ (by omega)]; exact f12) j (by omega)
  have n3 := beN_take ((s.drop 3).take 8) j (by omega)
  have n11 := beN_take ((s.drop 11).take 8) j (by omega)
  rw [tk8 _ _ _ hj] at n3 n11
  refine ⟨_, _, m3, m11, rfl, ?_⟩
  unfold stR byteAt
  rw [n3, n11]
theorem wrap3 (y c : Nat) (hy : y < 1099511627776) (hc : c < 256) : wrap64 (wrap64 (256 * (y : Int)) + wrap64 (c : Int)) = ((256 * y + c : Nat) : Int) := by
  have e : wrap64 (c : Int) = (c : Int) := by rw [wrap64]; omega
  rw [e]; exact wrap2 y c hy hc
theorem byteAt_drop (s : List UInt8) (a : Nat) : byteAt (s.drop a) 0 = byteAt s a := by
  unfold byteAt; rw [List.getD_eq_getElem?_getD, List.getD_eq_getElem?_getD, List.getElem?_drop, Nat.add_zero]
theorem sub_drop1 (s : List UInt8) (a n : Nat) : sub (s.drop a) 1 (1 + n) = sub s (a + 1) (a + 1 + n) := by
  unfold sub
  rw [List.take_drop, List.drop_drop, show a + (1 + n) = a + 1 + n by omega]
theorem four_of {α : Type} {l : List α} (h : l.length = 4) : ∃ a b c d, l = [a, b, c, d] := match l, h with
  | [a, b, c, d], _ => ⟨a, b, c, d, rfl⟩
theorem drop_end (s : List UInt8) (a : Nat) (h : a ≤ s.length) : s.drop a = [] ↔ a = s.length := by
  rw [List.drop_eq_nil_iff]; omega
theorem raw_texts {w : World} {g : Nat} {name s x0 x1 x2 x3 : List UInt8} (h : w.heap[g]? = some (.cells (rcells (raw2 name s [] [] [] [])) 36 (0, 0))) :
    ((((w.setCell ⟨g, 2, none⟩ (.string (str x0))).setCell ⟨g, 3, none⟩ (.string (str x1))).setCell ⟨g, 4, none⟩ (.string (str x2))).setCell ⟨g, 5, none⟩ (.string (str x3))).heap[g]? = some (.cells (rcells (raw2 name s x0 x1 x2 x3)) 36 (0, 0)) :=
  setCell_row _ g 5 _ _ _ _ (setCell_row _ g 4 _ _ _ _ (setCell_row _ g 3 _ _ _ _ (setCell_row _ g 2 _ _ _ _ h)))
/-- the two stores of a round -/
theorem row_made {w : World} {g : Nat} {R : Rec} {a b x : Int} {v : Value} (h : w.heap[g]? = some (.cells (rcells { R with made := a, used := b }) 36 (0, 0))) (hv : v = .int .i64 x) : (w.setCell ⟨g, 6, none⟩ v).heap[g]? = some (.cells (rcells { R with made := x, used := b }) 36 (0, 0)) := by
  subst hv; exact setCell_row w g 6 _ _ _ _ h
theorem row_used {w : World} {g : Nat} {R : Rec} {a b x : Int} {v : Value} (h : w.heap[g]? = some (.cells (rcells { R with made := a, used := b }) 36 (0, 0))) (hv : v = .int .i64 x) : (w.setCell ⟨g, 7, none⟩ v).heap[g]? = some (.cells (rcells { R with made := a, used := x }) 36 (0, 0)) := by
  subst hv; exact setCell_row w g 7 _ _ _ _ h
theorem row_num {w : World} {g : Nat} {R : Rec} {a b : Int} (h : w.heap[g]? = some (.cells (rcells { R with made := a, used := b }) 36 (0, 0))) : w.cell? ⟨g, 6, none⟩ = some (.int .i64 a) ∧ w.cell? ⟨g, 7, none⟩ = some (.int .i64 b) ∧ ∀ q, w.frozen? ⟨g, q, none⟩ = false :=
  ⟨by rw [cell_of_row _ _ _ _ _ _ h]; rfl, by rw [cell_of_row _ _ _ _ _ _ h]; rfl, fun q => by simp [World.frozen?, h]⟩
theorem int_eq {a b : Int} (h : a = b) : Value.int .i64 a = .int .i64 b := by rw [h]
theorem str_end (name s : List UInt8) : stR name s 8 = raw2 name s [] [] [] [] := by
  unfold stR raw2
  have e : ∀ l : List UInt8, (l.take 8).take 8 = l.take 8 := fun l => by rw [List.take_take]; rfl
  rw [e, e, one_eq]; rfl
/-- the document's answer, by its texts -/
theorem rd_four {name s : List UInt8} (hf : few2 s) {a b c d r : List UInt8} (hp : pn 4 (s.drop 19) = some ([a, b, c, d], r)) : dec name s = if r = [] ∧ rightI (raw2 name s a b c d) = true then some (raw2 name s a b c d) else none := by
  rw [dec_eq]; unfold rdec
  rw [if_pos hf, p4_pn, hp]
theorem rd_stop {name s : List UInt8} (hp : pn 4 (s.drop 19) = none) : decR name s = Rk.zero ∧ decE name s = 8 := by
  unfold decR decE; rw [dec_eq]; unfold rdec
  split
  · rw [p4_pn, hp]; exact ⟨rfl, rfl⟩
  · exact ⟨rfl, rfl⟩
theorem rd_none {name s : List UInt8} (h : ¬ few2 s) : decR name s = Rk.zero ∧ decE name s = 8 := by
  unfold decR decE; rw [dec_eq]; unfold rdec; rw [if_neg h]; exact ⟨rfl, rfl⟩
end Rk
end Go.Proofs.YtmdepmohfnficaaDoor
