/- Package frame: rows held against one another; the record that stands first. -/
import Derived.Test.YtkdmljijgfejpaaDoorFrA
import Derived.Test.YtkdmljijgfejpaaDoorPiece
import Derived.Test.YtkdmljijgfejpaaDoorStr
import Derived.BigRegion
namespace Go.Proofs.YtkdmljijgfejpaaDoor
set_option linter.unusedVariables false
set_option linter.unusedSimpArgs false
open Go.RowKit Fr

set_option maxHeartbeats 1000000 in
theorem equal_any (u v : Value) (a b : List UInt8) (w : World) (ha : Bytes w u a) (hb : Bytes w v b) :
    Calls Tryd.prog 64 #[u, v] w fun e w' => e = .returned (.bool (seq a b)) ∧ Ext w w' := by
  obtain ⟨aa, ca, rfl, ha⟩ := ha
  obtain ⟨ab, cb, rfl, hb⟩ := hb
  have e0 := Ext.refl w
  by_cases hl : a.length = b.length
  case neg =>
    have q : ((a.length : Int) != (b.length : Int)) = true := by simp; omega
    have hF := Lib.hid (show seq a b = false from seq_false.2 fun e => hl (by rw [e]))
    go_enter Tryd.func64, Tryd.ntmps64
    go_wp2
    go_ret
    exact ⟨by rw [hF.out]; rfl, e0⟩
  have q : ((a.length : Int) != (b.length : Int)) = false := by simp; omega
  have hlh := Lib.hid hl
  have hal := Lib.hid ha.len
  clear hl
  go_enter Tryd.func64, Tryd.ntmps64
  go_wp2
  go_loopw [13] (fun i wr => ∃ k : Nat, k ≤ a.length ∧ i = .int .i64 (k : Int) ∧ RowKit.Hid (a.take k = b.take k) ∧ Ext w wr) (fun i _ => a.length - (intOf i).toNat)
  case atStart => exact ⟨0, Nat.zero_le _, rfl, Lib.hid rfl, e0⟩
  case round =>
    obtain ⟨k, hk, rfl, ht, ek⟩ := hrel
    by_cases hlt : k < a.length
    · obtain ⟨g, o, rfl, c1⟩ := ha.get k hlt
      obtain ⟨g2, o2, rfl, c2⟩ := hb.get k (by rw [← hlh.out]; exact hlt)
      have d1 := ek.cell c1
      have d2 := ek.cell c2
      have i1 : (k : Int) < (a.length : Int) := by omega
      have i2 : (k : Int) < (b.length : Int) := by have := hlh.out; omega
      have hw : IntKind.i64.wrap ((k : Int) + 1) = (k : Int) + 1 := by have := hal.out; rw [IntKind.wrap_i64]; omega
      have hnx := Lib.hid (fun (h : a.getD k 0 = b.getD k 0) => (by
        rw [List.take_add_one, List.take_add_one, ht.out]
        have h1 : a[k]? = some (a.getD k 0) := by rw [List.getD_eq_getElem?_getD, List.getElem?_eq_getElem hlt]; rfl
        have h2 : b[k]? = some (b.getD k 0) := by rw [List.getD_eq_getElem?_getD, List.getElem?_eq_getElem (by have := hlh.out; omega)]; rfl
        rw [h1, h2, h] : a.take (k + 1) = b.take (k + 1)))
      have hno := Lib.hid (fun (h : a.getD k 0 ≠ b.getD k 0) => (seq_false.2 fun e => h (by rw [e]) : seq a b = false))
      clear c1 c2
      generalize a.getD k 0 = x at *
      generalize b.getD k 0 = y at *
      by_cases hxy : x = y
      · subst hxy
        have hn2 := Lib.hid (hnx.out rfl)
        clear hnx hno ht
        go_wp2
        go_region
        go_wp2
        go_roundw
        case rel => exact ⟨k + 1, by omega, by go_num, hn2, ek.drew⟩
        case measure => simp [intOf]; omega
      · have hF := Lib.hid (hno.out hxy)
        have qx : ((x.toNat : Int) != (y.toNat : Int)) = true := by
          simp only [bne_iff_ne, ne_eq]
          exact fun e => hxy (UInt8.toNat_inj.1 (by omega))
        clear hnx hno ht hxy
        go_wp2
        go_region
        go_wp2
        go_ret
        exact ⟨by rw [hF.out]; rfl, ek.drew⟩
    · obtain rfl : k = a.length := by omega
      have hF := Lib.hid (show seq a b = true from seq_true.2 (by
        have := ht.out
        rw [List.take_length, hlh.out, List.take_length] at this
        exact this))
      go_wp2
      go_ret
      exact ⟨by rw [hF.out]; rfl, ek⟩
end Go.Proofs.YtkdmljijgfejpaaDoor
