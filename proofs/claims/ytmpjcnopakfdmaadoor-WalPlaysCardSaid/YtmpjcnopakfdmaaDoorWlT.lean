/- The document's log: four, Head. -/
import Derived.Test.YtmpjcnopakfdmaaDoorGWm
import Derived.Test.YtmpjcnopakfdmaaDoorFrG
import Derived.Test.YtmpjcnopakfdmaaDoorGRd
namespace Go.Proofs.YtmpjcnopakfdmaaDoor
set_option linter.unusedVariables false
set_option linter.unusedSimpArgs false
open Go.RowKit Dk Wl Fr

theorem quo_w {n k m : Nat} (hn : n < 4294967296) (hk : n / m = k) : IntKind.i64.wrap ((n : Int) / (m : Int)) = (k : Int) := by
  rw [← hk, show (n : Int) / (m : Int) = ((n / m : Nat) : Int) from (Int.natCast_ediv n m).symm]
  refine wrap_le (by omega) ?_
  have := Nat.div_le_self n m
  omega
set_option maxHeartbeats 1000000 in
theorem rfour_any (n : Nat) (hn : n < 4294967296) (w : World) :
    Calls Tryd.prog 52 #[.int .i64 (n : Int)] w (Ret fun v w' => OwnB w' w.heap.size v (be4 n) ∧ Ext w w') := by
  have e0 := Ext.refl w
  have hb : be4 n = [b8 (n / 16777216), b8 (n / 65536), b8 (n / 256), b8 n] := rfl
  obtain ⟨a, ha⟩ : ∃ a, a = n / 16777216 := ⟨_, rfl⟩
  obtain ⟨b, hb'⟩ : ∃ b, b = n / 65536 := ⟨_, rfl⟩
  obtain ⟨c, hc⟩ : ∃ c, c = n / 256 := ⟨_, rfl⟩
  have q1 : IntKind.i64.wrap ((n : Int) / 16777216) = (a : Int) := quo_w (m := 16777216) hn ha.symm
  have q2 : IntKind.i64.wrap ((n : Int) / 65536) = (b : Int) := quo_w (m := 65536) hn hb'.symm
  have q3 : IntKind.i64.wrap ((n : Int) / 256) = (c : Int) := quo_w (m := 256) hn hc.symm
  rw [← ha, ← hb', ← hc] at hb
  have k : ∀ m : Nat, ((b8 m).toNat : Int) = (m : Int) % 256 := fun m => by rw [b8_toNat]; omega
  have hbh := Lib.hid hb
  have hkh := Lib.hid k
  clear hb k ha hb' hc hn
  go_enter Tryd.func52, Tryd.ntmps52
  go_wp2
  go_ret
  refine Ret.mk ⟨OwnB.lit rfl ?_ rfl (by decide) (Nat.le_refl _), e0.alloc _⟩
  rw [hbh.out]
  show [Value.int .u8 ((a : Int) % 256), .int .u8 ((b : Int) % 256), .int .u8 ((c : Int) % 256), .int .u8 ((n : Int) % 256)] = [Value.int .u8 ((b8 a).toNat : Int), .int .u8 ((b8 b).toNat : Int), .int .u8 ((b8 c).toNat : Int), .int .u8 ((b8 n).toNat : Int)]
  rw [hkh.out a, hkh.out b, hkh.out c, hkh.out n]
theorem be4_sum (s : BitVec 32) : be4 s.toNat = sum4 s := by
  unfold be4 sum4
  simp only [BitVec.toNat_ushiftRight, Nat.shiftRight_eq_div_pow]
set_option maxHeartbeats 1000000 in
theorem rhead_any (h : H) (f : h.Fine) (w : World) :
    Calls Tryd.prog 24 #[.int .i64 (h.gen : Int), .int .i64 (h.area : Int), .int .i64 (h.used : Int)] w (Ret fun v w' => OwnB w' w.heap.size v (hb h) ∧ Ext w w') := by
  have hg := f.gen
  have ha := f.area
  have hu := f.used
  have hwd := f.wd
  have e0 := Ext.refl w
  have g1 : IntKind.i64.wrap ((h.gen : Int) * 16384) = (h.gen : Int) * 16384 := wrap_le (by omega) (by omega)
  have g2 : IntKind.i64.wrap ((h.area : Int) * 8192) = (h.area : Int) * 8192 := wrap_le (by omega) (by omega)
  have g3 : IntKind.i64.wrap ((h.gen : Int) * 16384 + (h.area : Int) * 8192) = (h.gen : Int) * 16384 + (h.area : Int) * 8192 := wrap_le (by omega) (by omega)
  have g5 : (h.gen : Int) * 16384 + (h.area : Int) * 8192 + (h.used : Int) = ((wd h : Nat) : Int) := by unfold wd; omega
  have g4 : IntKind.i64.wrap ((wd h : Nat) : Int) = ((wd h : Nat) : Int) := wrap_le (by omega) (by omega)
  have hb4 := Lib.hid (show hb h = be4 (Crc.sum (be4 (wd h))).toNat ++ be4 (wd h) from by rw [be4_sum]; rfl)
  have hf1 := Lib.hid (fun W => rfour_any (wd h) hwd W)
  have hf2 := Lib.hid (fun W => rfour_any (Crc.sum (be4 (wd h))).toNat (Crc.sum (be4 (wd h))).isLt W)
  have hLl := Lib.hid (show (be4 (wd h)).length = 4 from rfl)
  have hSl := Lib.hid (show (be4 (Crc.sum (be4 (wd h))).toNat).length = 4 from rfl)
  have hcv : IntKind.i64.wrap (U (Crc.sum (be4 (wd h)))) = U (Crc.sum (be4 (wd h))) := by
    have h1 := U_lo (Crc.sum (be4 (wd h)))
    have h2 := U_hi (Crc.sum (be4 (wd h)))
    rw [IntKind.wrap_i64]; omega
  have hUn : RowKit.Hid (U (Crc.sum (be4 (wd h))) = (((Crc.sum (be4 (wd h))).toNat : Nat) : Int)) := Lib.hid rfl
  obtain ⟨gn, ar, us⟩ := h
  dsimp only at *
  generalize wd ⟨gn, ar, us⟩ = N at *
  generalize be4 N = L at *
  have hof := Lib.hid (fun W v (hv : Bytes W v L) => refOf_any v L W hv)
  rw [← hUn.out] at hf2
  clear f hg ha hu hwd hUn
  go_enter Tryd.func24, Tryd.ntmps24
  go_wp2_with (first
    | (go_at_call_of 52 (Value.int .i64 (N : Int)); refine (hf1.out w).mono ?_; rintro e w1 ⟨v, rfl, o1, e1⟩)
    | (go_at_call 49; refine (hof.out w1 v o1.bytes).mono ?_; rintro e w2 ⟨rfl, e2⟩)
    | (go_at_call_of 52 (Value.int .i64 (U (Crc.sum L))); refine (hf2.out w2).mono ?_; rintro e w3 ⟨v3, rfl, o3, e3⟩)
    | (at_builtin; go_must (refine wpList_appendB rfl _ _ rfl w2.heap.size v3 _ rfl o3 v L rfl (o1.bytes.ext (e2.trans e3)) (by have := hLl.out; have := hSl.out; omega) e3.size ?_); intro v4 w4 o4 g4))
  go_ret
  refine Ret.mk ⟨by rw [hb4.out]; exact o4.down (Nat.le_trans e1.size e2.size), ((e1.trans e2).trans e3).grown g4 fun k hk => Nat.le_trans (Nat.le_trans e1.size e2.size) (o3.lt k hk)⟩
/-- a document's disk that is asked only -/
structure RV (w : World) (p : Nat) (d : D) : Prop where
  len : ∀ W, Ext w W → Calls Tryd.prog 58 #[.pointer (some ⟨p, 0, none⟩)] W fun e w' => e = .returned (.int .i64 (d.n : Int)) ∧ W = w'
  read : ∀ W (i : Int), Ext w W → Calls Tryd.prog 59 #[.pointer (some ⟨p, 0, none⟩), .int .i64 i] W (Ret fun v w' => Bytes W v (rdB i d) ∧ W = w')
theorem RV.ext {w w' : World} {p : Nat} {d : D} (h : RV w p d) (e : Ext w w') : RV w' p d := ⟨fun W e' => h.len W (e.trans e'), fun W i e' => h.read W i (e.trans e')⟩
theorem RV.of {w : World} {F : Nat → Prop} {p : Nat} {d : D} (h : RDisk w F p d) : RV w p d := ⟨fun _ e => rLen_any (h.ext e), fun _ i e => rread_any (h.ext e) i⟩
theorem rsize_any {w : World} {p : Nat} {d : D} (hD : RV w p d) (h4 : 4 ≤ d.n) (h512 : d.n ≤ 512) :
    Calls Tryd.prog 60 #[.pointer (some ⟨p, 0, none⟩)] w fun e w' => e = .returned (.int .i64 ((32 * areaN d.n : Nat) : Int)) ∧ w = w' := by
  have hl := hD.len w (Ext.refl w)
  have g1 : IntKind.i64.wrap ((d.n : Int) - 2) = (d.n : Int) - 2 := wrap_le (by omega) (by omega)
  have g4 : ((d.n : Int) - 2) / 2 = (areaN d.n : Int) := by unfold areaN; omega
  have g3 : IntKind.i64.wrap (areaN d.n : Int) = (areaN d.n : Int) := wrap_sm (by unfold areaN; omega)
  have g5 : (32 * (areaN d.n : Int)) = ((32 * areaN d.n : Nat) : Int) := by omega
  have g6 : IntKind.i64.wrap ((32 * areaN d.n : Nat) : Int) = ((32 * areaN d.n : Nat) : Int) := wrap_sm (by unfold areaN; omega)
  clear hD
  generalize areaN d.n = m at *
  generalize 32 * m = M at *
  go_enter Tryd.func60, Tryd.ntmps60
  go_wp2_with (go_at_call 58; refine hl.mono ?_; rintro e w' ⟨rfl, rfl⟩)
  go_ret
  exact ⟨rfl, rfl⟩
end Go.Proofs.YtmpjcnopakfdmaaDoor
