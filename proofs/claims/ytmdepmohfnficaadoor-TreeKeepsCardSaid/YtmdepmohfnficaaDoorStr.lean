/- Words for texts: strings as lists of bytes behind names that simp does not open. -/
import Derived.Test.YtmdepmohfnficaaDoorBase
namespace Go.Proofs.YtmdepmohfnficaaDoor
set_option linter.unusedVariables false
set_option linter.unusedSimpArgs false
open Go.RowKit

/-- a text of these bytes -/
def str (l : List UInt8) : ByteArray := ⟨l.toArray⟩
theorem str_surj (s : ByteArray) : ∃ l, s = str l := ⟨s.data.toList, rfl⟩
@[go_sem] theorem str_size (l : List UInt8) : (str l).size = l.length := by simp [str, ByteArray.size]
@[go_sem] theorem str_data (l : List UInt8) : (str l).data.toList = l := rfl
theorem str_inj {a b : List UInt8} (h : str a = str b) : a = b := by
  have := congrArg (fun s : ByteArray => s.data.toList) h
  exact this
@[go_sem] theorem str_append (a b : List UInt8) : str a ++ str b = str (a ++ b) := by
  apply ByteArray.ext
  simp [str, ByteArray.data_append]
theorem toList_str (l : List UInt8) : (str l).toList = l := by
  rw [ByteArray.toList_eq]; rfl
/-- are texts one? -/
def seq (a b : List UInt8) : Bool := a == b
theorem seq_true {a b : List UInt8} : seq a b = true ↔ a = b := by simp [seq]
theorem seq_false {a b : List UInt8} : seq a b = false ↔ a ≠ b := by simp [seq]
theorem seq_self (a : List UInt8) : seq a a = true := by simp [seq]
/-- a piece of a text -/
def sub (l : List UInt8) (i j : Nat) : List UInt8 := (l.take j).drop i
/-- a byte of a text -/
def byteAt (l : List UInt8) (i : Nat) : UInt8 := l.getD i 0
@[go_sem] theorem str_extract (l : List UInt8) (i j : Nat) : (str l).extract i j = str (sub l i j) := by
  unfold str sub
  rw [ByteArray.extract_mk, List.drop_take]
theorem eql_str (t : TypeId) (a b : List UInt8) : binOp .eql t (.string (str a)) (.string (str b)) = pure (.bool (seq a b)) := by
  rw [binOp_string_eql, toList_str, toList_str]; rfl
theorem neq_str (t : TypeId) (a b : List UInt8) : binOp .neq t (.string (str a)) (.string (str b)) = pure (.bool !(seq a b)) := by
  rw [binOp_string_neq, toList_str, toList_str]; rfl
attribute [go_sem ↓] eql_str neq_str
@[go_sem] theorem toList_seq (a b : List UInt8) : ((str a).toList == (str b).toList) = seq a b := by rw [toList_str, toList_str]; rfl
/-- a text that the program's text spells -/
@[go_sem] theorem str_const (l : List UInt8) : ByteArray.mk (List.toArray l) = str l := rfl
@[go_sem ↓] theorem eql_str_const (t : TypeId) (a b : List UInt8) : binOp .eql t (.string (str a)) (.string ⟨b.toArray⟩) = pure (.bool (seq a b)) := eql_str t a b
@[go_sem ↓] theorem neq_str_const (t : TypeId) (a b : List UInt8) : binOp .neq t (.string (str a)) (.string ⟨b.toArray⟩) = pure (.bool !(seq a b)) := neq_str t a b
section
variable {P : Program} (w : World)
theorem run_add_str (t : TypeId) (a b : List UInt8) (h : a.length + b.length ≤ 9223372036854775807) : (binOp .add t (.string (str a)) (.string (str b))).run P w = .ok (.string (str (a ++ b))) w := by
  rw [binOp_string_add, run_string_add_sum w (str a) (str b) (by rw [str_size, str_size]; exact h), str_append]
@[go_sem ↓] theorem run_index_str (t : TypeId) (l : List UInt8) (k : IntKind) (i : Int) (h : P.underlying t = some .string) (h0 : 0 ≤ i) (h1 : i < (l.length : Int)) :
    (Instr.index t (.string (str l)) (.int k i)).run P w = .ok (.int .u8 ((byteAt l i.toNat).toNat : Int)) w := by
  have h2 : i < ((str l).size : Int) := by rw [str_size]; exact h1
  have h3 : i.toNat < l.length := by omega
  rw [run_index_string w t (str l) k i h, dif_pos ⟨h0, h2⟩]
  have e : (str l)[i.toNat]'(by omega) = byteAt l i.toNat := by
    show l.toArray[i.toNat]'_ = _
    simp [byteAt, List.getD, h3]
    rfl
  rw [e]
@[go_sem ↓] theorem run_slice_str (t : TypeId) (l : List UInt8) (k k' : IntKind) (i j : Int) (h : P.underlying t = some .string) (h0 : 0 ≤ i) (h1 : i ≤ j) (h2 : j ≤ (l.length : Int)) :
    (Instr.slice t (.string (str l)) (some (.int k i)) (some (.int k' j)) none).run P w = .ok (.string (str (sub l i.toNat j.toNat))) w := by
  rw [run_slice_string w t (str l) k k' i j h h0 h1 (by rw [str_size]; exact h2), str_extract]
@[go_sem ↓] theorem run_slice_str_from (t : TypeId) (l : List UInt8) (k : IntKind) (i : Int) (h : P.underlying t = some .string) (h0 : 0 ≤ i) (h2 : i ≤ (l.length : Int)) :
    (Instr.slice t (.string (str l)) (some (.int k i)) none none).run P w = .ok (.string (str (l.drop i.toNat))) w := by
  rw [run_slice_string_from_if w t (str l) k i h, if_pos ⟨h0, by rw [str_size]; exact h2⟩, str_extract]
  unfold sub
  rw [str_size, List.take_length]
@[go_sem ↓] theorem run_slice_str_to (t : TypeId) (l : List UInt8) (k : IntKind) (j : Int) (h : P.underlying t = some .string) (h0 : 0 ≤ j) (h2 : j ≤ (l.length : Int)) :
    (Instr.slice t (.string (str l)) none (some (.int k j)) none).run P w = .ok (.string (str (l.take j.toNat))) w := by
  rw [run_slice_string_to_if w t (str l) k j h, if_pos ⟨h0, by rw [str_size]; exact h2⟩, str_extract]
  unfold sub
  rw [List.drop_zero]
end
@[go_sem] theorem str_get (l : List UInt8) (i : Nat) (h : i < (str l).size) : (str l)[i]'h = byteAt l i := by
  have h3 : i < l.length := by rw [str_size] at h; exact h
  show l.toArray[i]'_ = _
  simp [byteAt, List.getD, h3]
  rfl
theorem byteAt_lt (l : List UInt8) (i : Nat) : ((byteAt l i).toNat : Int) < 256 := byte_lt _
/-- bytes as a text -/
theorem conv_bytes {w : World} {v : Value} {l : List UInt8} (h : Bytes w v l) : (convert 120 9 v).run Tryd.prog w = .ok (.string (str l)) w := by
  obtain ⟨a, cap, rfl, h⟩ := h
  cases a with
  | none =>
    have : l = [] := List.eq_nil_of_length_eq_zero (by have := h.none rfl; have := h.le; omega)
    subst this
    rw [run_convert_bytes_string w 120 9 5 _ _ _ Tryd.underlying120 Tryd.underlying5 Tryd.underlying9]
    rfl
  | some ad =>
    refine run_convert_bytes_back w 120 9 5 ad cap l Tryd.underlying120 Tryd.underlying5 Tryd.underlying9 fun j hj => ?_
    obtain ⟨g, o, e, hc⟩ := h.cells j hj
    cases e
    rw [Addr.add_lit]; exact hc
end Go.Proofs.YtmdepmohfnficaaDoor
