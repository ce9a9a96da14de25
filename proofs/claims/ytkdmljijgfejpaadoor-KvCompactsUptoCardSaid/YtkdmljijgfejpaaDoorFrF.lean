/- Package frame: All; the document's Few and Lists. -/
import Derived.Test.YtkdmljijgfejpaaDoorFrA
import Derived.Test.YtkdmljijgfejpaaDoorStr
import Derived.BigRegion
namespace Go.Proofs.YtkdmljijgfejpaaDoor
set_option linter.unusedVariables false
set_option linter.unusedSimpArgs false
open Go.RowKit Fr

theorem LL.get {w : World} {v : Value} {ls : List (List UInt8)} (h : LL w v ls) : ∃ a cap, v = .slice a ls.length cap ∧ ls.length ≤ 9223372036854775807 ∧ ∀ j (hj : j < ls.length), ∃ g o b c, a = some ⟨g, o, none⟩ ∧ w.cell? ⟨g, o + j, none⟩ = some (.slice b ls[j].length c) ∧ Bytes w (.slice b ls[j].length c) ls[j] := by
  obtain ⟨a, cap, h1, h2, h3, -, h5⟩ := h
  refine ⟨a, cap, h1, by unfold maxLen at h3; omega, fun j hj => ?_⟩
  obtain ⟨g, o, x, k1, k2, k3⟩ := h5 j ls[j] (List.getElem?_eq_getElem hj)
  obtain ⟨b, c, rfl, k4⟩ := k3
  exact ⟨g, o, b, c, k1, k2, b, c, rfl, k4⟩
theorem errAll_append : ∀ (a b : List (List UInt8)), errAll a = 0 → errAll (a ++ b) = errAll b
  | [], b, _ => rfl
  | x :: a, b, h => by
    have h' : (if errOf x = 0 then errAll a else errOf x) = 0 := h
    show (if errOf x = 0 then errAll (a ++ b) else errOf x) = _
    by_cases hx : errOf x = 0
    · rw [if_pos hx] at h' ⊢; exact errAll_append a b h'
    · rw [if_neg hx] at h'; exact absurd h' hx
theorem take_split {α : Type} {ls : List α} {k : Nat} (hk : k < ls.length) : ls = ls.take k ++ ls[k] :: ls.drop (k + 1) := by
  rw [← List.drop_eq_getElem_cons hk, List.take_append_drop]
theorem take_snoc {α : Type} {ls : List α} {k : Nat} (hk : k < ls.length) : ls.take (k + 1) = ls.take k ++ [ls[k]] := by
  rw [List.take_add_one, List.getElem?_eq_getElem hk]; rfl
theorem errAll_ok1 {ls : List (List UInt8)} {k : Nat} (hk : k < ls.length) (h0 : errAll (ls.take k) = 0) (h : errOf ls[k] = 0) : errAll (ls.take (k + 1)) = 0 := by
  rw [take_snoc hk, errAll_append _ _ h0]
  show (if errOf ls[k] = 0 then errAll [] else errOf ls[k]) = 0
  rw [if_pos h]; rfl
theorem errAll_bad1 {ls : List (List UInt8)} {k : Nat} (hk : k < ls.length) (h0 : errAll (ls.take k) = 0) (h : errOf ls[k] ≠ 0) : errAll ls = errOf ls[k] := by
  conv => lhs; rw [take_split hk]
  rw [errAll_append _ _ h0]
  exact if_neg h
theorem size_oks : ∀ (ls : List (List UInt8)), Fr.oks ls = true → Fr.size ls ≤ 4006 * ls.length
  | [], _ => Nat.le_refl _
  | l :: ls, h => by
    have h' : (ok l && ls.all ok) = true := by rw [← List.all_cons]; exact h
    rw [Bool.and_eq_true] at h'
    have := size_oks ls h'.2
    have h2 := (ok_iff.1 h'.1).2
    rw [show Fr.size (l :: ls) = 6 + l.length + Fr.size ls from rfl, List.length_cons]; omega
set_option maxHeartbeats 1000000 in
theorem all_any (v : Value) (ls : List (List UInt8)) (w : World) (hw : Halves w) (hv : LL w v ls) (hn : ls.length ≤ 30000000000) :
    Calls Tryd.prog 58 #[v] w (Ret fun r w' => ∃ x, r = .tuple #[x, .int .i64 (errAll ls)] ∧ Ext w w' ∧ ((errAll ls = 0 ∧ OwnB w' w.heap.size x (all ls)) ∨ (errAll ls ≠ 0 ∧ x = .slice none 0 0))) := by
  obtain ⟨a, cap, rfl, -, hget⟩ := hv.get
  have hgh := Lib.hid hget
  have hwh := Lib.hid hw
  clear hget hv hw
  go_enter Tryd.func58, Tryd.ntmps58
  go_wp2
  go_loopw [4, 11] (fun o i wr => ∃ k : Nat, k ≤ ls.length ∧ i = .int .i64 (k : Int) ∧ RowKit.Hid (errAll (ls.take k) = 0) ∧ RowKit.Hid (OwnB wr w.heap.size o (all (ls.take k))) ∧ Ext w wr) (fun _ i _ => ls.length - (intOf i).toNat)
  case atStart => exact ⟨0, Nat.zero_le _, rfl, Lib.hid rfl, Lib.hid (by exact World.ownsRow_nil w w.heap.size _ 1), Ext.refl w⟩
  case round =>
    obtain ⟨k, hk, rfl, he, ho, ek⟩ := hrel
    by_cases hlt : k < ls.length
    · obtain ⟨g, o', b, c, rfl, c1, hb⟩ := hgh.out k hlt
      have d1 := ek.cell c1
      have hput := put_any _ _ wr (hwh.out.ext ek) (hb.ext ek)
      have hok := Lib.hid (errAll_ok1 hlt he.out)
      have hbad := Lib.hid (errAll_bad1 hlt he.out)
      have hall := Lib.hid (show all (ls.take (k + 1)) = all (ls.take k) ++ frm ls[k] from by rw [take_snoc hlt, all_append]; show _ ++ (frm ls[k] ++ []) = _; rw [List.append_nil])
      have hsz := Lib.hid (show (all (ls.take k)).length + (4006 : Nat) ≤ 140737488355328 from by
        have h1 := size_oks _ (errAll_ok.1 he.out)
        rw [List.length_take] at h1
        rw [all_length]
        omega)
      have hki : (k : Int) < (ls.length : Int) := by omega
      have hwr : IntKind.i64.wrap ((k : Int) + 1) = (k : Int) + 1 := by rw [IntKind.wrap_i64]; omega
      clear c1 hb
      generalize ls[k] = x at *
      obtain ⟨ao, co, rfl, -⟩ := ho.out.bytes
      by_cases hx : errOf x = 0
      · have hok2 := Lib.hid (hok.out hx)
        have hxl := Lib.hid (Fr.ok_iff.1 (errOf_ok.1 hx)).2
        rw [hx] at hput
        clear hok hbad
        go_wp2_with (first
          | (go_at_call 55; refine hput.mono ?_; rintro e w1 ⟨r, rfl, x1, rfl, e1, ⟨-, hx1⟩ | ⟨hx1, -⟩⟩; rotate_left; exact absurd rfl hx1)
          | (at_builtin; go_must (refine wpList_appendB rfl _ _ rfl w.heap.size _ (all (ls.take k)) rfl (ho.out.ext e1) _ (frm x) rfl hx1.bytes (by have := hsz.out; have := hxl.out; rw [frm_length]; omega) (by have := ek.size; have := e1.size; omega) ?_); intro v2 w2 o2 g2))
        go_roundw
        case rel => exact ⟨k + 1, by omega, by go_num, hok2, Lib.hid (by rw [hall.out]; exact o2), (ek.trans e1).own (ho.out.ext e1) g2⟩
        case measure => simp [intOf]; omega
      · have hE := Lib.hid (hbad.out hx)
        have q : (errOf x != 0) = true := by simp [hx]
        have hxh := Lib.hid hx
        clear hok hbad hx
        go_wp2_with (go_at_call 55; refine hput.mono ?_; rintro e w1 ⟨r, rfl, x1, rfl, e1, -⟩)
        go_ret2
        exact Ret.mk ⟨_, by rw [hE.out]; rfl, ek.trans e1, .inr ⟨by rw [hE.out]; exact hxh.out, rfl⟩⟩
    · obtain rfl : k = ls.length := by omega
      have heh := Lib.hid (show errAll ls = 0 from by have := he.out; rwa [List.take_length] at this)
      have hoh := ho.out
      rw [List.take_length] at hoh
      have hoh := Lib.hid hoh
      go_wp2
      go_ret2
      exact Ret.mk ⟨_, by rw [heh.out]; rfl, ek, .inl ⟨heh.out, hoh.out⟩⟩
/-! ### are records of a size that is looked at -/
def few1 (l : List UInt8) : Bool := !(decide (100 < l.length) && decide (l.length ≤ 4000))
def fewF (ls : List (List UInt8)) : Bool := ls.all few1 && decide (ls.length ≤ 20)
theorem fewF_ok {ls : List (List UInt8)} (h : fewF ls = true) : ls.length ≤ 20 ∧ ∀ l ∈ ls, l.length ≤ 100 ∨ 4000 < l.length := by
  unfold fewF at h
  rw [Bool.and_eq_true, decide_eq_true_iff] at h
  refine ⟨h.2, fun l hl => ?_⟩
  have := List.all_eq_true.1 h.1 l hl
  unfold few1 at this
  simp at this
  omega
theorem fewF_no {ls : List (List UInt8)} {j : Nat} (hj : j < ls.length) (h : few1 ls[j] = false) : fewF ls = false := by
  unfold fewF
  have : ls.all few1 = false := by rw [List.all_eq_false]; exact ⟨ls[j], List.getElem_mem hj, by simp [h]⟩
  rw [this]; rfl
def seqL (a b : List (List UInt8)) : Bool := a == b
theorem seqL_true {a b : List (List UInt8)} : seqL a b = true ↔ a = b := by simp [seqL]
theorem seqL_false {a b : List (List UInt8)} : seqL a b = false ↔ a ≠ b := by simp [seqL]
end Go.Proofs.YtkdmljijgfejpaaDoor
