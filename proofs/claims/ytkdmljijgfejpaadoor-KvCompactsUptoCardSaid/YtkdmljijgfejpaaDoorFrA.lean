/- Package frame: Size, sum, Put; two rows of bytes held against one another. -/
import Derived.Test.YtkdmljijgfejpaaDoorLL
import Derived.Test.YtkdmljijgfejpaaDoorCrc
import Derived.Test.YtkdmljijgfejpaaDoorFrMath
namespace Go.Proofs.YtkdmljijgfejpaaDoor
set_option linter.unusedVariables false
set_option linter.unusedSimpArgs false
open Go.RowKit Fr

theorem size_any (n : Int) (h0 : 0 ≤ n) (h1 : n ≤ 9223372036854775000) (w : World) : Calls Tryd.prog 68 #[.int .i64 n] w fun e w' => e = .returned (.int .i64 (n + 6)) ∧ w = w' := by
  have hw : IntKind.i64.wrap (n + 6) = n + 6 := by rw [IntKind.wrap_i64]; omega
  go_enter Tryd.func68, Tryd.ntmps68
  go_wp2
  go_ret
  exact ⟨rfl, rfl⟩
/-! ### numbers as bytes -/
theorem U8_wrap (n : Int) : IntKind.u8.wrap n = n % 256 := by rw [IntKind.wrap_u8]
theorem b8_int (n : Nat) : ((n : Int) % 256) = ((b8 n).toNat : Int) := by rw [b8_toNat]; omega
theorem u8v_b8 (n : Nat) : Value.int .u8 ((n : Int) % 256) = u8v (b8 n) := by rw [b8_int]; rfl
theorem shr8 (n : Nat) : (n : Int) / 256 = ((n / 256 : Nat) : Int) := by omega
theorem byteOf_b8 (x : BitVec 32) : Crc.byteOf x = b8 x.toNat := by
  apply UInt8.toNat_inj.1
  rw [b8_toNat]
  show (x.setWidth 8).toNat = _
  rw [BitVec.toNat_setWidth]
theorem OwnB.lit {w : World} {C : Array Value} {g n base : Nat} {l : List UInt8} (hg : g = w.heap.size) (hC : C.toList = l.map u8v) (hn : n = l.length) (hm : n ≤ maxLen) (hb : base ≤ w.heap.size) :
    OwnB (w.alloc (.cells C 5)) base (.slice (some ⟨g, 0, none⟩) n n) l := by
  subst hg hn
  have hs : C.size = l.length := by rw [← Array.length_toList, hC, List.length_map]
  have := World.ownsRow_lit (base := base) (e := 5) (size := 1) w C l.length hb hm (by omega)
  rwa [hC] at this
theorem OwnB.down {w : World} {base base' : Nat} {v : Value} {l : List UInt8} (h : OwnB w base v l) (hb : base' ≤ base) : OwnB w base' v l := by
  obtain ⟨h1, h⟩ := h
  refine ⟨h1, ?_⟩
  rcases h with h | ⟨g, cap, cur, e, hg, r⟩
  · exact .inl h
  · exact .inr ⟨g, cap, cur, e, by omega, r⟩
theorem sumOf_two (l : List UInt8) : Crc.more (Crc.sum (hd2 l.length)) l = sumOf l := by rw [Crc.more_sum]; rfl
theorem fsum_any (v : Value) (l : List UInt8) (w : World) (hw : Halves w) (hb : Bytes w v l) (hl : l.length ≤ 4000) :
    Calls Tryd.prog 69 #[v] w fun e w' => e = .returned (.int .u32 (U (sumOf l))) ∧ Ext w w' := by
  obtain ⟨a, cap, rfl, -⟩ := id hb
  have e0 := Ext.refl w
  have hc1 : IntKind.u8.wrap ((l.length : Int) / 256) = ((b8 (l.length / 256)).toNat : Int) := by rw [IntKind.wrap_u8, b8_toNat]; omega
  have hc2 : IntKind.u8.wrap (l.length : Int) = ((b8 l.length).toNat : Int) := by rw [IntKind.wrap_u8, b8_toNat]; omega
  have hs := Lib.hid (sumOf_two l)
  have hwh := Lib.hid hw
  have hbh := Lib.hid hb
  clear hb hw
  go_enter Tryd.func69, Tryd.ntmps69
  go_wp2_with (first
    | (go_at_call 79; refine (of_any _ (hd2 l.length) _ (hwh.out.ext (e0.alloc _)) (Bytes.lit rfl rfl rfl (Nat.le_refl _) (show 2 ≤ maxLen by decide))).mono ?_; rintro e w' ⟨rfl, rfl⟩)
    | (go_at_call 82; refine (more_any _ _ l _ (hwh.out.ext (e0.alloc _)) (hbh.out.ext (e0.alloc _))).mono ?_; rintro e w' ⟨rfl, rfl⟩))
  go_ret
  exact ⟨by rw [hs.out]; rfl, e0.alloc _⟩
set_option maxHeartbeats 1000000 in
theorem put_any (v : Value) (l : List UInt8) (w : World) (hw : Halves w) (hb : Bytes w v l) :
    Calls Tryd.prog 55 #[v] w (Ret fun r w' => ∃ x, r = .tuple #[x, .int .i64 (errOf l)] ∧ Ext w w' ∧ ((errOf l = 0 ∧ OwnB w' w.heap.size x (frm l)) ∨ (errOf l ≠ 0 ∧ x = .slice none 0 0))) := by
  obtain ⟨a, cap, rfl, -⟩ := id hb
  have e0 := Ext.refl w
  by_cases h0 : l.length = 0
  · have hE := Lib.hid (show errOf l = 1 from by unfold errOf; rw [if_pos h0])
    clear hb
    rw [h0]
    go_enter Tryd.func55, Tryd.ntmps55
    go_wp2
    go_ret2
    exact Ret.mk ⟨_, by rw [hE.out]; rfl, e0, .inr ⟨by rw [hE.out]; decide, rfl⟩⟩
  have q0 : ((l.length : Int) == 0) = false := by rw [beq_eq_false_iff_ne]; omega
  by_cases h1 : 4000 < l.length
  · have hE := Lib.hid (show errOf l = 2 from by unfold errOf; rw [if_neg h0, if_pos h1])
    clear hb
    go_enter Tryd.func55, Tryd.ntmps55
    go_wp2
    go_ret2
    exact Ret.mk ⟨_, by rw [hE.out]; rfl, e0, .inr ⟨by rw [hE.out]; decide, rfl⟩⟩
  have hE := Lib.hid (show errOf l = 0 from by unfold errOf; rw [if_neg h0, if_neg h1])
  have hc1 : IntKind.u8.wrap ((l.length : Int) / 256) = ((b8 (l.length / 256)).toNat : Int) := by rw [IntKind.wrap_u8, b8_toNat]; omega
  have hc2 : IntKind.u8.wrap (l.length : Int) = ((b8 l.length).toNat : Int) := by rw [IntKind.wrap_u8, b8_toNat]; omega
  have hl4 : l.length ≤ 4000 := by omega
  have hs4 := Lib.hid (show ∀ s : BitVec 32, sum4 s = [Crc.byteOf (s >>> 24), Crc.byteOf (s >>> 16), Crc.byteOf (s >>> 8), Crc.byteOf s] from fun s => by unfold sum4; rw [byteOf_b8, byteOf_b8, byteOf_b8, byteOf_b8])
  have hF := Lib.hid (show frm l = (hd2 l.length ++ sum4 (sumOf l)) ++ l from rfl)
  have hbh := Lib.hid hb
  have hsm := fsum_any _ l w hw hb hl4
  generalize sumOf l = S at *
  clear hb h0 hw
  go_enter Tryd.func55, Tryd.ntmps55
  go_wp2_with (first
    | (go_at_call 69; refine hsm.mono ?_; rintro e w1 ⟨rfl, e1⟩)
    | (at_builtin; go_must (refine wpList_appendB rfl _ _ rfl w1.heap.size _ (hd2 l.length ++ sum4 S) rfl (OwnB.lit rfl (by rw [hs4.out]; rfl) rfl (by decide) (Nat.le_refl _)) _ l rfl (hbh.out.ext (e1.alloc _)) (by simp [hd2_length, sum4_length]; omega) ((Ext.refl w1).alloc _).size ?_); intro v2 w2 o2 g2))
  have e2 := (e1.alloc _).grown g2 fun k hk => by cases hk; exact e1.size
  rw [← hF.out] at o2
  go_ret2
  exact Ret.mk ⟨_, by rw [hE.out]; rfl, e2, .inl ⟨hE.out, o2.down e1.size⟩⟩
end Go.Proofs.YtkdmljijgfejpaaDoor
