/- Records as bytes: the document's functions. -/
import Derived.Test.YtmdepmohfnficaaDoorRecF
import Derived.Test.YtmdepmohfnficaaDoorRecW
import Derived.Deep.DeepCutAuto
namespace Go.Proofs.YtmdepmohfnficaaDoor
set_option linter.unusedVariables false
set_option linter.unusedSimpArgs false
open Go.RowKit Rk

set_option maxHeartbeats 1000000 in
theorem text_any (s : List UInt8) (hs : s.length ≤ 255) (w : World) :
    Calls Tryd.prog 97 #[.string (str s)] w fun e w' => e = .returned (.string (str (tx s))) ∧ Ext w w' := by
  have e0 := Ext.refl w
  have hcl : RowKit.Hid ((#[.int .u8 (s.length : Int)] : Array Value).toList = [UInt8.ofNat s.length].map u8v) := Lib.hid (by
    have := u8_of s.length hs
    rw [List.map_singleton, u8v, this])
  have hcv : ∀ W : World, (convert 120 9 (.slice (some ⟨W.heap.size, 0, none⟩) 1 1)).run Tryd.prog (W.alloc (.cells #[.int .u8 (s.length : Int)] 5)) = .ok (.string (str [UInt8.ofNat s.length])) (W.alloc (.cells #[.int .u8 (s.length : Int)] 5)) := fun W => conv_bytes (Bytes.lit rfl hcl.out rfl (Nat.le_refl 1) (by decide))
  have ka : ∀ W, (binOp .add 9 (.string (str [UInt8.ofNat s.length])) (.string (str s))).run Tryd.prog W = .ok (.string (str ([UInt8.ofNat s.length] ++ s))) W := fun W => run_add_str (P := Tryd.prog) W 9 _ s (by simp; omega)
  have hs2 : (s.length : Int) ≤ 255 := by omega
  go_enter Tryd.func97, Tryd.ntmps97
  go_wp2
  go_ret
  exact ⟨rfl, e0.alloc _⟩

set_option maxRecDepth 20000 in
set_option maxHeartbeats 1000000 in
theorem eight_any (n : Nat) (hn : n < 9223372036854775808) (w : World) :
    Calls Tryd.prog 96 #[.int .i64 (n : Int)] w fun e w' => e = .returned (.string (str (beB 8 n))) ∧ Ext w w' := by
  have e0 := Ext.refl w
  go_enter Tryd.func96, Tryd.ntmps96
  go_wp2
  go_loopw [0, 3, 4] (fun m s i wr => ∃ k : Nat, k ≤ 8 ∧ i = .int .i64 k ∧ m = .int .i64 ((n / 256 ^ k : Nat) : Int) ∧ s = .string (str (beB k n)) ∧ Ext w wr) (fun _ _ i _ => 8 - (intOf i).toNat)
  case atStart => exact ⟨0, Nat.zero_le _, rfl, by simp, rfl, e0⟩
  case round =>
    obtain ⟨k, hk, rfl, rfl, rfl, ek⟩ := hrel
    by_cases hlt : k < 8
    · have hb := beB_cons k n
      have hq1 : n / 256 ^ (k + 1) = n / 256 ^ k / 256 := by rw [Nat.pow_succ, Nat.div_div_eq_div_mul]
      have hql : n / 256 ^ k ≤ n := Nat.div_le_self _ _
      obtain ⟨q, hq⟩ : ∃ q, q = n / 256 ^ k := ⟨_, rfl⟩
      rw [← hq] at hb hq1 hql ⊢
      have hb2 := Lib.hid hb
      have hq2 := Lib.hid hq1
      clear hb hq1 hq
      have hql2 : (q : Int) < 9223372036854775808 := by omega
      have hcl : RowKit.Hid ((#[.int .u8 ((q : Int) % 256)] : Array Value).toList = [UInt8.ofNat (q % 256)].map u8v) := Lib.hid (by
        have := u8_of (q % 256) (by omega)
        rw [List.map_singleton, u8v, this]; simp)
      have hcv : ∀ W : World, (convert 120 9 (.slice (some ⟨W.heap.size, 0, none⟩) 1 1)).run Tryd.prog (W.alloc (.cells #[.int .u8 ((q : Int) % 256)] 5)) = .ok (.string (str [UInt8.ofNat (q % 256)])) (W.alloc (.cells #[.int .u8 ((q : Int) % 256)] 5)) := fun W => conv_bytes (Bytes.lit rfl hcl.out rfl (Nat.le_refl 1) (by decide))
      have hbl := beB_length k n
      have ka : ∀ W, (binOp .add 9 (.string (str [UInt8.ofNat (q % 256)])) (.string (str (beB k n)))).run Tryd.prog W = .ok (.string (str ([UInt8.ofNat (q % 256)] ++ beB k n))) W := fun W => run_add_str (P := Tryd.prog) W 9 _ _ (by simp; omega)
      have hq0 : (0 : Int) ≤ (q : Int) := by omega
      have hm0 : (0 : Int) ≤ (q : Int) % 256 := by omega
      have hm1 : (q : Int) % 256 < 256 := by omega
      have hw : RowKit.Hid (wrap64 ((q : Int) / 256) = (q : Int) / 256) := Lib.hid (by rw [wrap64]; omega)
      clear hql hm0 hm1 hql2 hn
      go_wp2
      go_roundw
      case rel => exact ⟨k + 1, by omega, by go_num, by
        rw [hq2.out]
        exact congrArg (Value.int .i64) hw.out, by rw [hb2.out] <;> rfl, ek.alloc _⟩
      case measure => simp [intOf]; omega
    · obtain rfl : k = 8 := by omega
      go_wp2
      go_ret
      exact ⟨rfl, ek⟩
end Go.Proofs.YtmdepmohfnficaaDoor
