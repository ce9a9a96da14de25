/- The contracts of package ticket, third part: index, parse, is, name. -/
import Derived.Test.YtkpcdbalhpmpmaaDoorTicketB
namespace Go.Proofs.YtkpcdbalhpmpmaaDoor
open Go.RowKit

/-! ### slices.Index over texts -/
theorem ixOf_step (l : List (List UInt8)) (p : List UInt8) (k : Nat) (a : List UInt8) (h : l[k]? = some a) (hn : ∀ j, j < k → ∀ b, l[j]? = some b → p ≠ b) (hs : seq p a = true) : Tk.ixOf l p = k :=
  Tk.ixOf_skip l p k hn a h (seq_true.1 hs)
set_option maxHeartbeats 400000 in
theorem slicesIndex_any (v : Value) (l : List (List UInt8)) (p : List UInt8) (w : World) (hb : Sl sv w v l) :
    Calls Tryd.prog 41 #[v, .string (str p)] w fun e w' => e = .returned (.int .i64 (Tk.ixOf l p)) ∧ w = w' := by
  obtain ⟨a, cap, rfl, hb⟩ := hb
  have hlen := hb.len
  go_enter Tryd.func41, Tryd.ntmps41
  go_wp2
  go_loop [8] (fun i => ∃ k : Nat, k ≤ l.length ∧ i = .int .i64 k ∧ RowKit.Hid (∀ j, j < k → ∀ b, l[j]? = some b → p ≠ b)) (fun i => l.length - (intOf i).toNat)
  case atStart => exact ⟨0, Nat.zero_le _, rfl, Lib.hid (fun j hj => by omega)⟩
  case round =>
    obtain ⟨k, hk, rfl, hn⟩ := hrel
    by_cases hlt : k < l.length
    · obtain ⟨b, hbk⟩ : ∃ b, l[k]? = some b := ⟨l[k], List.getElem?_eq_getElem hlt⟩
      obtain ⟨g, o, rfl, hcell⟩ := hb.cells k b hbk
      unfold sv at hcell
      cases hs : seq p b
      · have hn2 : RowKit.Hid (∀ j, j < k + 1 → ∀ b, l[j]? = some b → p ≠ b) := Lib.hid (by
          intro j hj c hc
          by_cases hjk : j = k
          · subst hjk
            rw [hbk] at hc; cases hc
            exact seq_false.1 hs
          · exact hn.out j (by omega) c hc)
        clear hbk
        go_wp2
        go_round
        case rel => exact ⟨k + 1, by omega, by go_num, hn2⟩
        case measure => simp [intOf]; omega
      · have hfin : RowKit.Hid (Tk.ixOf l p = k) := Lib.hid (ixOf_step l p k b hbk hn.out hs)
        clear hbk
        go_wp2
        go_ret
        exact ⟨by rw [hfin.out]; rfl, rfl⟩
    · have hfin : RowKit.Hid (Tk.ixOf l p = -1) := Lib.hid (Tk.ixOf_none l p fun a ha => by
        obtain ⟨j, hj⟩ := List.getElem?_of_mem ha
        exact hn.out j (by have := (List.getElem?_eq_some_iff.1 hj).1; omega) a hj)
      go_wp2
      go_ret
      exact ⟨by rw [hfin.out]; rfl, rfl⟩
theorem kindOf_any (p : List UInt8) (w : World) (hw : Pres w) :
    Calls Tryd.prog 41 #[.slice (some ⟨0, 0, none⟩) 7 7, .string (str p)] w fun e w' => e = .returned (.int .i64 (Tk.kindOf p)) ∧ w = w' := slicesIndex_any _ _ p w hw.sl0

theorem parse_any (s : List UInt8) (hs : s.length ≤ 9223372036854775807) (w : World) (hw : Pres w) :
    Calls Tryd.prog 18 #[.string (str s)] w fun e w' => e = .returned (.tuple #[.int .i64 (Tk.pk s), .int .u64 (V (Tk.pn s)), .bool (Tk.pok s)]) ∧ Ext w w' := by
  cases hd : Tk.dok (Tk.cutR s)
  · have hfin := Lib.hid (Tk.parse_no1 hd)
    go_enter Tryd.func18, Tryd.ntmps18
    go_wp2_with (first
      | (go_at_call 39; refine (cut_any _ hs _).mono ?_; rintro e w' ⟨rfl, h⟩)
      | (go_at_call 40; refine (draw_any _ _).mono ?_; rintro e w' ⟨rfl, rfl⟩)
      | (go_at_call 41; refine (kindOf_any _ _ (hw.ext h)).mono ?_; rintro e w' ⟨rfl, rfl⟩))
    go_ret3
    exact ⟨by rw [hfin.out.1, hfin.out.2.1, hfin.out.2.2]; rfl, h⟩
  · by_cases hk : Tk.kindOf (Tk.cutP s) < 1
    · have hfin := Lib.hid (Tk.parse_no2 hk)
      go_enter Tryd.func18, Tryd.ntmps18
      go_wp2_with (first
        | (go_at_call 39; refine (cut_any _ hs _).mono ?_; rintro e w' ⟨rfl, h⟩)
        | (go_at_call 40; refine (draw_any _ _).mono ?_; rintro e w' ⟨rfl, rfl⟩)
        | (go_at_call 41; refine (kindOf_any _ _ (hw.ext h)).mono ?_; rintro e w' ⟨rfl, rfl⟩))
      go_ret3
      exact ⟨by rw [hfin.out.1, hfin.out.2.1, hfin.out.2.2]; rfl, h⟩
    · have hfin := Lib.hid (Tk.parse_yes hd hk)
      go_enter Tryd.func18, Tryd.ntmps18
      go_wp2_with (first
        | (go_at_call 39; refine (cut_any _ hs _).mono ?_; rintro e w' ⟨rfl, h⟩)
        | (go_at_call 40; refine (draw_any _ _).mono ?_; rintro e w' ⟨rfl, rfl⟩)
        | (go_at_call 41; refine (kindOf_any _ _ (hw.ext h)).mono ?_; rintro e w' ⟨rfl, rfl⟩))
      go_ret3
      exact ⟨by rw [hfin.out.1, hfin.out.2.1, hfin.out.2.2]; rfl, h⟩
/-- is a text a name of a kind? -/
def isI (s : List UInt8) (k : Int) : Bool := Tk.pok s && (Tk.pk s == k)
theorem is_any (s : List UInt8) (hs : s.length ≤ 9223372036854775807) (k : Int) (w : World) (hw : Pres w) :
    Calls Tryd.prog 22 #[.string (str s), .int .i64 k] w fun e w' => e = .returned (.bool (isI s k)) ∧ Ext w w' := by
  cases hp : Tk.pok s
  · have hfin : RowKit.Hid (isI s k = false) := Lib.hid (by unfold isI; rw [hp]; rfl)
    go_enter Tryd.func22, Tryd.ntmps22
    go_wp2_with (go_at_call 18; refine (parse_any _ hs _ hw).mono ?_; rintro e w' ⟨rfl, h⟩)
    go_ret
    exact ⟨by rw [hfin.out]; rfl, h⟩
  · have hfin : RowKit.Hid (isI s k = (Tk.pk s == k)) := Lib.hid (by unfold isI; rw [hp]; rfl)
    go_enter Tryd.func22, Tryd.ntmps22
    go_wp2_with (go_at_call 18; refine (parse_any _ hs _ hw).mono ?_; rintro e w' ⟨rfl, h⟩)
    go_ret
    exact ⟨by rw [hfin.out]; rfl, h⟩

/-! ### names -/
/-- block g holds just these bytes -/
def RowB (w : World) (g : Nat) (l : List UInt8) : Prop := ∃ cur : Array Value, w.heap[g]? = some (.cells cur 5 (0, 0)) ∧ cur.toList = l.map u8v
theorem RowB.set {w : World} {g : Nat} {l : List UInt8} (h : RowB w g l) (j : Nat) (c : UInt8) : RowB (w.setCell ⟨g, j, none⟩ (.int .u8 (c.toNat : Int))) g (l.set j c) := by
  obtain ⟨cur, h1, h2⟩ := h
  refine ⟨_, setCell_row w g j cur _ _ _ h1, ?_⟩
  rw [Array.toList_setIfInBounds, h2, List.map_set]; rfl
theorem RowB.cell {w : World} {g : Nat} {l : List UInt8} (h : RowB w g l) (j : Nat) (hj : j < l.length) : w.cell? ⟨g, j, none⟩ = some (.int .u8 ((l.getD j 0).toNat : Int)) := by
  obtain ⟨cur, h1, h2⟩ := h
  rw [cell_of_row _ _ _ _ _ _ h1]
  have e : cur.toList[j]? = (l.map u8v)[j]? := by rw [h2]
  rw [List.getElem?_map, List.getElem?_eq_getElem hj] at e
  simpa [u8v, List.getD, hj] using e
theorem RowB.free {w : World} {g : Nat} {l : List UInt8} (h : RowB w g l) (j : Nat) : w.frozen? ⟨g, j, none⟩ = false := by
  obtain ⟨cur, h1, h2⟩ := h
  simp [World.frozen?, h1]
theorem RowB.bytes {w : World} {g n cap : Nat} {l : List UInt8} (h : RowB w g l) (hn : n = l.length) (hc : l.length ≤ cap) (hm : cap ≤ maxLen) : Bytes w (.slice (some ⟨g, 0, none⟩) n cap) l := by
  refine Bytes.row hn hc hm fun j hj => ?_
  rw [Nat.zero_add, h.cell j hj]
  simp [List.getD, hj]
theorem RowB.made {w : World} {g : Nat} {C : Array Value} {l : List UInt8} (hg : g = w.heap.size) (hC : C.toList = l.map u8v) : RowB (w.alloc (.cells C 5)) g l := by
  subst hg
  exact ⟨C, heap_alloc_new w _, hC⟩
def zero16 : Array Value := ((List.replicate 16 0).map u8v).toArray

set_option maxHeartbeats 800000 in
theorem name_any (K : Int) (x : BitVec 64) (w : World) (hw : Pres w) :
    Calls Tryd.prog 14 #[.int .i64 K, .int .u64 (V x)] w fun e w' => e = .returned (.tuple #[.string (str (Tk.nameI K x.toNat)), .int .i64 (Tk.errI K)]) ∧ Ext w w' := by
  have hmk : ∀ w, (Instr.makeSlice 31 (.int .i64 16) (.int .i64 16)).run Tryd.prog w = .ok (.slice (some ⟨w.heap.size, 0, none⟩) 16 16) (w.alloc (.cells zero16 5)) := fun _ => by kernel_rfl
  have e0 := Ext.refl w
  cases hk : Tk.okK K
  · have hp : seq (Tk.preI K) [] = true := by rw [Tk.preI_empty, hk]; rfl
    have hfin : RowKit.Hid (Tk.nameI K x.toNat = [] ∧ Tk.errI K = 8) := Lib.hid (by unfold Tk.nameI Tk.errI; rw [hk]; simp)
    go_enter Tryd.func14, Tryd.ntmps14
    go_wp2_with (go_at_call 20; refine (prefix_any _ _ hw).mono ?_; rintro e w' ⟨rfl, rfl⟩)
    go_ret2
    exact ⟨by rw [hfin.out.1, hfin.out.2]; rfl, e0⟩
  · have hp : seq (Tk.preI K) [] = false := by rw [Tk.preI_empty, hk]; rfl
    have hpl : (Tk.preI K).length ≤ 6 := by
      unfold Tk.preI; rw [hk]
      have := Tk.pre_length (Tk.okK_kind hk)
      simp; omega
    have hfin : RowKit.Hid (str (Tk.nameI K x.toNat) = str (Tk.preI K ++ 45 :: Tk.fill 16 x.toNat) ∧ Tk.errI K = 0) := Lib.hid (by unfold Tk.nameI Tk.errI Tk.preI Tk.name; rw [hk, Tk.fill_end]; simp)
    go_enter Tryd.func14, Tryd.ntmps14
    go_wp2_with (go_at_call 20; refine (prefix_any _ _ hw).mono ?_; rintro e w' ⟨rfl, rfl⟩)
    have r0 : RowB (w.alloc (.cells zero16 5)) w.heap.size (Tk.fill 0 x.toNat) := RowB.made rfl (by simp [zero16, Tk.fill, Tk.digs])
    obtain ⟨g, hg⟩ : ∃ g, g = w.heap.size := ⟨_, rfl⟩
    have HG : RowKit.Hid (w.heap.size ≤ g) := Lib.hid (by omega)
    rw [← hg] at r0 ⊢
    have e1 := e0.alloc (.cells zero16 5)
    clear hg hmk
    go_loopw [16] (fun i wr => ∃ k : Nat, k ≤ 16 ∧ i = .int .i64 k ∧ RowB wr g (Tk.fill k x.toNat) ∧ Ext w wr) (fun i _ => 16 - (intOf i).toNat)
    case atStart => exact ⟨0, Nat.zero_le _, rfl, r0, e1⟩
    case round =>
      obtain ⟨k, hk, rfl, rk, ek⟩ := hrel
      by_cases hlt : k < 16
      · have hl := Tk.fill_length k x.toNat hk
        have ck := rk.cell (15 - k) (by omega)
        have fk := rk.free (15 - k)
        have hi : (15 : Int) - (k : Int) = ((15 - k : Nat) : Int) := by omega
        go_wp2
        go_roundw
        case rel =>
          refine ⟨k + 1, by omega, by go_num, ?_, ek.setCell HG.out _⟩
          have r1 := rk.set (15 - k) (Tk.hexc (x.toNat / 16 ^ k % 16))
          rw [Tk.fill_set k _ hlt] at r1
          rw [digit_byte]
          exact r1
        case measure => simp [intOf]; omega
      · obtain rfl : k = 16 := by omega
        have hl := Tk.fill_length 16 x.toNat hk
        have kc := conv_bytes (rk.bytes (n := 16) (cap := 16) (by omega) (by omega) (by decide))
        have ka1 := fun w => run_add_str (P := Tryd.prog) w 9 (Tk.preI K) [45] (by simp; omega)
        go_wp2
        go_ret2
        exact ⟨by rw [hfin.out.1, hfin.out.2]; rfl, ek⟩
end Go.Proofs.YtkpcdbalhpmpmaaDoor
