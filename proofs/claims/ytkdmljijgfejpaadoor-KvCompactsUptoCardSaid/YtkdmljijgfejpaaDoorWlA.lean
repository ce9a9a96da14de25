/- The log in memory: its sizes, a head's bytes. -/
import Derived.Test.YtkdmljijgfejpaaDoorGWp
import Derived.Test.YtkdmljijgfejpaaDoorGDk
import Derived.Test.YtkdmljijgfejpaaDoorFrK
namespace Go.Proofs.YtkdmljijgfejpaaDoor
set_option linter.unusedVariables false
set_option linter.unusedSimpArgs false
open Go.RowKit Dk Wl Fr

/-- a log's cells -/
def lcells (p : Nat) (h : H) (vu : Value) : Array Value := #[.pointer (some ⟨p, 0, none⟩), .int .i64 (h.gen : Int), .int .i64 (h.area : Int), .int .i64 (h.used : Int), vu]
def LogAt (w : World) (q p : Nat) (h : H) (vu : Value) : Prop := w.heap[q]? = some (.cells (lcells p h vu) 99 (0, 0))
def hagg (h : H) : Value := .agg #[.int .i64 (h.gen : Int), .int .i64 (h.area : Int), .int .i64 (h.used : Int)]
theorem LogAt.cells {w : World} {q p : Nat} {h : H} {vu : Value} (l : LogAt w q p h vu) :
    w.cell? ⟨q, 0, none⟩ = some (.pointer (some ⟨p, 0, none⟩)) ∧ w.cell? ⟨q, 1, none⟩ = some (.int .i64 (h.gen : Int)) ∧ w.cell? ⟨q, 2, none⟩ = some (.int .i64 (h.area : Int)) ∧ w.cell? ⟨q, 3, none⟩ = some (.int .i64 (h.used : Int)) ∧ w.cell? ⟨q, 4, none⟩ = some vu :=
  ⟨cell_at l 0 rfl, cell_at l 1 rfl, cell_at l 2 rfl, cell_at l 3 rfl, cell_at l 4 rfl⟩
theorem LogAt.lt {w : World} {q p : Nat} {h : H} {vu : Value} (l : LogAt w q p h vu) : q < w.heap.size := (Array.getElem?_eq_some_iff.1 l).1
theorem LogAt.ext {w w' : World} {q p : Nat} {h : H} {vu : Value} (l : LogAt w q p h vu) (e : Ext w w') : LogAt w' q p h vu := e.heap l
theorem LogAt.chg {w w' : World} {q p : Nat} {h : H} {vu : Value} {F : Nat → Prop} (l : LogAt w q p h vu) (c : Chg F w w') (hF : ¬ F q) : LogAt w' q p h vu := (c.block q l.lt hF).trans l
theorem lsize_any {w : World} {F : Nat → Prop} {q p : Nat} {h : H} {vu : Value} {d : D} (l : LogAt w q p h vu) (hD : Disk w F p d) (h4 : 4 ≤ d.n) (h512 : d.n ≤ 512) :
    Calls Tryd.prog 51 #[.pointer (some ⟨q, 0, none⟩)] w fun e w' => e = .returned (.int .i64 (areaN d.n : Int)) ∧ w = w' := by
  obtain ⟨c0, -⟩ := l.cells
  have hl := len_any hD
  have g1 : IntKind.i64.wrap ((d.n : Int) - 2) = (d.n : Int) - 2 := wrap_le (by omega) (by omega)
  have g2 : Int.tdiv ((d.n : Int) - 2) 2 = (areaN d.n : Int) := by rw [Int.tdiv_eq_ediv_of_nonneg (by omega)]; unfold areaN; omega
  have g3 : IntKind.i64.wrap (areaN d.n : Int) = (areaN d.n : Int) := wrap_sm (by unfold areaN; omega)
  have g4 : ((d.n : Int) - 2) / 2 = (areaN d.n : Int) := by unfold areaN; omega
  clear l hD
  generalize areaN d.n = m at *
  go_enter Tryd.func51, Tryd.ntmps51
  go_wp2_with (go_at_call 49; refine hl.mono ?_; rintro e w' ⟨rfl, rfl⟩)
  go_ret
  exact ⟨rfl, rfl⟩
theorem lroom_any {w : World} {F : Nat → Prop} {q p : Nat} {h : H} {vu : Value} {d : D} (l : LogAt w q p h vu) (hD : Disk w F p d) (h4 : 4 ≤ d.n) (h512 : d.n ≤ 512) :
    Calls Tryd.prog 59 #[.pointer (some ⟨q, 0, none⟩)] w fun e w' => e = .returned (.int .i64 ((32 * areaN d.n : Nat) : Int)) ∧ w = w' := by
  have hl := lsize_any l hD h4 h512
  have hm : areaN d.n ≤ 256 := by unfold areaN; omega
  have g1 : ((areaN d.n : Int) * 32) = ((32 * areaN d.n : Nat) : Int) := by omega
  have g2 : IntKind.i64.wrap ((32 * areaN d.n : Nat) : Int) = ((32 * areaN d.n : Nat) : Int) := wrap_sm (by omega)
  clear l hD
  generalize areaN d.n = m at *
  generalize 32 * m = M at *
  go_enter Tryd.func59, Tryd.ntmps59
  go_wp2_with (go_at_call 51; refine hl.mono ?_; rintro e w' ⟨rfl, rfl⟩)
  go_ret
  exact ⟨rfl, rfl⟩
theorem lblock_any {w : World} {F : Nat → Prop} {q p : Nat} {h : H} {vu : Value} {d : D} (l : LogAt w q p h vu) (hD : Disk w F p d) (h4 : 4 ≤ d.n) (h512 : d.n ≤ 512) (a i : Nat) (ha : a < 2) (hi : i ≤ 512) :
    Calls Tryd.prog 53 #[.pointer (some ⟨q, 0, none⟩), .int .i64 (a : Int), .int .i64 (i : Int)] w fun e w' => e = .returned (.int .i64 ((2 + a * areaN d.n + i : Nat) : Int)) ∧ w = w' := by
  have hl := lsize_any l hD h4 h512
  have hm : areaN d.n ≤ 256 := by unfold areaN; omega
  clear l hD
  generalize areaN d.n = m at *
  obtain ⟨x, hx⟩ : ∃ x, x = a * m := ⟨_, rfl⟩
  have hx2 : x ≤ 256 := by
    rw [hx]
    have : a = 0 ∨ a = 1 := by omega
    rcases this with rfl | rfl <;> omega
  have g1 : ((a : Int) * (m : Int)) = (x : Int) := by rw [hx]; exact (Int.natCast_mul a m).symm
  rw [← hx]
  clear hx
  have g2 : IntKind.i64.wrap (x : Int) = (x : Int) := wrap_sm (by omega)
  have g3 : IntKind.i64.wrap (2 + (x : Int)) = 2 + (x : Int) := wrap_le (by omega) (by omega)
  have g4 : IntKind.i64.wrap (2 + (x : Int) + (i : Int)) = 2 + (x : Int) + (i : Int) := wrap_le (by omega) (by omega)
  go_enter Tryd.func53, Tryd.ntmps53
  go_wp2_with (go_at_call 51; refine hl.mono ?_; rintro e w' ⟨rfl, rfl⟩)
  go_ret
  exact ⟨by rw [show ((2 + x + i : Nat) : Int) = 2 + (x : Int) + (i : Int) by omega]; rfl, rfl⟩
theorem lit_be (n : Nat) : (#[Value.int .u8 ((n : Int) / 16777216 % 256), .int .u8 ((n : Int) / 65536 % 256), .int .u8 ((n : Int) / 256 % 256), .int .u8 ((b8 n).toNat : Int)] : Array Value).toList = (be4 n).map u8v := by
  have k : ∀ m : Nat, ((b8 m).toNat : Int) = (m : Int) % 256 := fun m => by rw [b8_toNat]; omega
  show [Value.int .u8 ((n : Int) / 16777216 % 256), .int .u8 ((n : Int) / 65536 % 256), .int .u8 ((n : Int) / 256 % 256), .int .u8 ((b8 n).toNat : Int)] = [Value.int .u8 ((b8 (n / 16777216)).toNat : Int), .int .u8 ((b8 (n / 65536)).toNat : Int), .int .u8 ((b8 (n / 256)).toNat : Int), .int .u8 ((b8 n).toNat : Int)]
  rw [k (n / 16777216), k (n / 65536), k (n / 256)]
  simp
set_option maxHeartbeats 1000000 in
theorem word_any (h : H) (f : h.Fine) (w : World) :
    Calls Tryd.prog 78 #[hagg h] w (Ret fun v w' => Bytes w' v (be4 (wd h)) ∧ Ext w w') := by
  have hg := f.gen
  have ha := f.area
  have hu := f.used
  have hwd := f.wd
  have e0 := Ext.refl w
  have g1 : IntKind.i64.wrap ((h.gen : Int) * 16384) = (h.gen : Int) * 16384 := wrap_le (by omega) (by omega)
  have g2 : IntKind.i64.wrap ((h.area : Int) * 8192) = (h.area : Int) * 8192 := wrap_le (by omega) (by omega)
  have g3 : IntKind.i64.wrap ((h.gen : Int) * 16384 + (h.area : Int) * 8192) = (h.gen : Int) * 16384 + (h.area : Int) * 8192 := wrap_le (by omega) (by omega)
  have g5 : (h.gen : Int) * 16384 + (h.area : Int) * 8192 + (h.used : Int) = ((wd h : Nat) : Int) := by unfold wd; omega
  have g4 : IntKind.i64.wrap ((wd h : Nat) : Int) = ((wd h : Nat) : Int) := wrap_le (by omega) (by omega)
  have k4 : IntKind.u8.wrap ((wd h : Nat) : Int) = ((b8 (wd h)).toNat : Int) := by rw [IntKind.wrap_u8, b8_toNat]; omega
  obtain ⟨gn, ar, us⟩ := h
  unfold hagg
  dsimp only at *
  generalize wd ⟨gn, ar, us⟩ = N at *
  clear f hg ha hu hwd
  go_enter Tryd.func78, Tryd.ntmps78
  go_wp2
  go_ret
  refine Ret.mk ⟨Bytes.lit ?_ (lit_be N) rfl (Nat.le_refl _) (by decide), (e0.alloc _).alloc _⟩
  simp
set_option maxHeartbeats 1000000 in
theorem hblock_any (h : H) (f : h.Fine) (w : World) (hw : Halves w) :
    Calls Tryd.prog 65 #[hagg h] w (Ret fun v w' => OwnB w' w.heap.size v (hb h) ∧ Ext w w') := by
  have e0 := Ext.refl w
  have hwo := word_any h f
  have hwh := Lib.hid hw
  have hb4 := Lib.hid (show hb h = sum4 (Crc.sum (be4 (wd h))) ++ be4 (wd h) from rfl)
  have hs4 := Lib.hid (show ∀ s : BitVec 32, sum4 s = [Crc.byteOf (s >>> 24), Crc.byteOf (s >>> 16), Crc.byteOf (s >>> 8), Crc.byteOf s] from fun s => by unfold sum4; rw [byteOf_b8, byteOf_b8, byteOf_b8, byteOf_b8])
  have hLl := Lib.hid (show (be4 (wd h)).length ≤ 1000 from by rw [be4_length]; decide)
  obtain ⟨gn, ar, us⟩ := h
  unfold hagg at *
  dsimp only at *
  generalize be4 (wd ⟨gn, ar, us⟩) = L at *
  clear f hw
  go_enter Tryd.func65, Tryd.ntmps65
  go_wp2_with (first
    | (go_at_call 78; refine (hwo _).mono ?_; rintro e w1 ⟨v, rfl, hv, e1⟩)
    | (go_at_call 79; refine (of_any _ L _ (hwh.out.ext ((e0.alloc _).trans e1)) hv).mono ?_; rintro e w2 ⟨rfl, rfl⟩)
    | (at_builtin; go_must (refine wpList_appendB rfl _ _ rfl w1.heap.size _ (sum4 (Crc.sum L)) rfl (OwnB.lit rfl (by rw [hs4.out]; rfl) rfl (by decide) (Nat.le_refl _)) _ L rfl (hv.ext ((Ext.refl w1).alloc _)) (by have := hLl.out; simp [sum4_length]; omega) ((Ext.refl w1).alloc _).size ?_); intro v2 w3 o3 g3))
  go_ret
  have e01 := (e0.alloc (.cells #[.int .i64 (gn : Int), .int .i64 (ar : Int), .int .i64 (us : Int)] 97)).trans e1
  refine Ret.mk ⟨by rw [hb4.out]; exact o3.down e01.size, (e01.alloc _).grown g3 fun k hk => by cases hk; exact e01.size⟩
end Go.Proofs.YtkdmljijgfejpaaDoor
