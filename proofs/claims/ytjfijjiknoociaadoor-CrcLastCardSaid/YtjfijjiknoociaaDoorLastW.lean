/- The walk of CrcLast: it returns true and leaves what was there. -/
import Derived.Test.YtjfijjiknoociaaDoorCrcAwake
import Derived.BigRegion
namespace Go.Proofs.YtjfijjiknoociaaDoor
open Go.RowKit

/-- four bytes turned by a word's bytes -/
def turned (l : List UInt8) (x : BitVec 32) : List UInt8 := [xr (l.getD 0 0) (Crc.byteOf x), xr (l.getD 1 0) (Crc.byteOf (x >>> 8)), xr (l.getD 2 0) (Crc.byteOf (x >>> 16)), xr (l.getD 3 0) (Crc.byteOf (x >>> 24))]
theorem turned_four (r x : BitVec 32) : turned (Crc.four r) x = Crc.four (r ^^^ x) := by
  simp [turned, Crc.four, xr, Crc.byteOf_xor, BitVec.ushiftRight_xor_distrib]
theorem last_iff (b : List UInt8) (want x : BitVec 32) : (U (Crc.sum (b ++ turned (Crc.four (Crc.lastWord b want)) x)) == U want) = (U x == 0) := by
  rw [turned_four]
  have h := Crc.sum_last_iff b want x
  have e : ∀ y z : BitVec 32, (U y == U z) = decide (y = z) := fun y z => by
    by_cases h : y = z
    · subst h; simp
    · simp only [h, decide_false]
      rw [beq_eq_false_iff_ne]
      exact fun e => h (U_inj e)
  have e0 : (U x == 0) = decide (x = 0#32) := e x 0#32
  rw [e, e0]
  simp only [h]
theorem four_length (r : BitVec 32) : (Crc.four r).length = 4 := rfl

set_option maxHeartbeats 1000000 in
theorem lasts_any (b : Value) (lb : List UInt8) (want x : BitVec 32) (w : World) (hw : Halves w) (hb : Bytes w b lb) :
    Calls Tryd.prog 6 #[b, .int .u32 (U want), .int .u32 (U x)] w (LawEnd w) := by
  obtain ⟨ab, cb, rfl, hb'⟩ := id hb
  have hlb := hb'.len
  clear hb'
  by_cases h1 : 300 < lb.length
  · go_enter Tryd.func6, Tryd.ntmps6
    go_wp2_with (go_at_call 9; refine (awake_any _ hw).mono ?_; rintro e w1 ⟨rfl, e1⟩)
    go_ret
    exact ⟨rfl, e1⟩
  have q1 := Crc.sum_last0 lb want
  have q2 := last_iff lb want x
  generalize hL : Crc.four (Crc.lastWord lb want) = L at *
  have hL4 : L.length = 4 := by rw [← hL]; rfl
  have HL := Lib.hid hL
  clear hL
  go_enter Tryd.func6, Tryd.ntmps6
  go_wp2_with fail
  refine (awake_any _ hw).mono ?_
  rintro e w1 ⟨rfl, e1⟩
  go_wp2_with fail
  refine (last_any _ lb want _ (hw.ext e1) (hb.ext e1)).mono ?_
  rintro e w2 ⟨v2, rfl, b2, e2⟩
  rw [HL.out] at b2
  have e3 := e1.trans e2
  clear e1 e2
  obtain ⟨av, cv, hv, bv⟩ := id b2
  rw [hL4] at hv
  subst hv
  obtain ⟨g, o, rfl, c0⟩ := bv.get 0 (by omega)
  obtain ⟨g', o', e, c1⟩ := bv.get 1 (by omega)
  cases e
  obtain ⟨g', o', e, c2⟩ := bv.get 2 (by omega)
  cases e
  obtain ⟨g', o', e, c3⟩ := bv.get 3 (by omega)
  cases e
  rw [Nat.add_zero] at c0
  have HL4 := Lib.hid hL4
  clear bv hL4
  have k0 := byte_lt (L.getD 0 0)
  generalize hx0 : L.getD 0 0 = l0 at *
  generalize hx1 : L.getD 1 0 = l1 at *
  generalize hx2 : L.getD 2 0 = l2 at *
  generalize hx3 : L.getD 3 0 = l3 at *
  have HT : RowKit.Hid (turned L x = [xr l0 (Crc.byteOf x), xr l1 (Crc.byteOf (x >>> 8)), xr l2 (Crc.byteOf (x >>> 16)), xr l3 (Crc.byteOf (x >>> 24))]) := Lib.hid (by rw [← hx0, ← hx1, ← hx2, ← hx3]; rfl)
  clear hx0 hx1 hx2 hx3
  obtain ⟨w4, hw4⟩ : ∃ w4, w4 = w2.alloc (.cells #[.int .u8 ((xr l0 (Crc.byteOf x)).toNat : Int), .int .u8 ((xr l1 (Crc.byteOf (x >>> 8))).toNat : Int), .int .u8 ((xr l2 (Crc.byteOf (x >>> 16))).toNat : Int), .int .u8 ((xr l3 (Crc.byteOf (x >>> 24))).toNat : Int)] 5) := ⟨_, rfl⟩
  have b4 : Bytes w4 (.slice (some ⟨w2.heap.size, 0, none⟩) 4 4) (turned L x) := by rw [hw4, HT.out]; exact Bytes.lit rfl rfl rfl (by decide) (by decide)
  have s4 : w4.heap.size = w2.heap.size + 1 := by rw [hw4]; simp
  have e4 : Ext w w4 := by rw [hw4]; exact e3.alloc _
  have b2' : Bytes w4 _ _ := b2.ext (by rw [hw4]; exact (Ext.refl w2).alloc _)
  have S4 := Lib.hid s4
  have HW4 := Lib.hid hw4
  clear hw4 s4
  go_wp2_with fail
  go_region
  rw [← HW4.out]
  clear c0 c1 c2 c3 k0 HW4 HT b2
  go_wp2_with (first
    | (at_builtin; refine wpList_appendB rfl _ _ rfl w4.heap.size _ [] rfl (OwnB.empty rfl (Nat.le_refl _)).drew _ lb rfl (hb.ext (e4.alloc _).drew) (by simp; omega) (by simp) ?_; intro v5 w5 o5 g5; have f5 := Ext.own ((Ext.refl w4).alloc _).drew (OwnB.empty rfl (Nat.le_refl _)).drew g5; clear g5; rw [List.nil_append] at o5)
    | (at_builtin; refine wpList_appendB rfl _ _ rfl w4.heap.size _ lb rfl o5 _ L rfl (b2'.ext f5) (by rw [HL4.out]; omega) f5.size ?_; intro v6 w6 o6 g6; have f6 := f5.own o5 g6; clear g6 o5 f5))
  refine (of_any _ _ _ (hw.ext (e4.trans f6)) o6.bytes).mono ?_
  rintro e w' ⟨rfl, rfl⟩
  clear o6
  have b4' := b4.ext f6
  have e6 := e4.trans f6
  clear b4 b2' f6 e4 S4
  go_wp2_with (first
    | (at_builtin; refine wpList_appendB rfl _ _ rfl w6.heap.size _ [] rfl (OwnB.empty rfl (Nat.le_refl _)) _ lb rfl (hb.ext (e6.alloc _)) (by simp; omega) (by simp) ?_; intro v7 w7 o7 g7; have f7 := Ext.own ((Ext.refl w6).alloc _) (OwnB.empty rfl (Nat.le_refl _)) g7; clear g7; rw [List.nil_append] at o7)
    | (at_builtin; refine wpList_appendB rfl _ _ rfl w6.heap.size _ lb rfl o7 _ _ rfl (b4'.ext f7) (by simp [turned]; omega) f7.size ?_; intro v8 w8 o8 g8; have f8 := f7.own o7 g8; clear g8 o7 f7)
    | (go_at_call 10; refine (of_any _ _ _ (hw.ext (e6.trans f8)) o8.bytes).mono ?_; rintro e w' ⟨rfl, rfl⟩))
  go_ret
  exact ⟨rfl, e6.trans f8⟩
end Go.Proofs.YtjfijjiknoociaaDoor
