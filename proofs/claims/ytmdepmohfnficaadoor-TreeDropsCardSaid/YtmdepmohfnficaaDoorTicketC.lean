/- The contracts of package ticket, third part: index, parse, is, name. -/
import Derived.Test.YtmdepmohfnficaaDoorTicketB
namespace Go.Proofs.YtmdepmohfnficaaDoor
open Go.RowKit

/-! ### slices.Index over texts -/
theorem ixOf_step (l : List (List UInt8)) (p : List UInt8) (k : Nat) (a : List UInt8) (h : l[k]? = some a) (hn : ∀ j, j < k → ∀ b, l[j]? = some b → p ≠ b) (hs : seq p a = true) : Tk.ixOf l p = k :=
  Tk.ixOf_skip l p k hn a h (seq_true.1 hs)
set_option maxHeartbeats 400000 in
theorem slicesIndex_any (v : Value) (l : List (List UInt8)) (p : List UInt8) (w : World) (hb : Sl sv w v l) :
    Calls Tryd.prog 88 #[v, .string (str p)] w fun e w' => e = .returned (.int .i64 (Tk.ixOf l p)) ∧ w = w' := by
  obtain ⟨a, cap, rfl, hb⟩ := hb
  have hlen := hb.len
  go_enter Tryd.func88, Tryd.ntmps88
  go_wp2
  go_loop [8] (fun i => ∃ k : Nat, k ≤ l.length ∧ i = .int .i64 k ∧ RowKit.Hid (∀ j, j < k → ∀ b, l[j]? = some b → p ≠ b)) (fun i => l.length - (intOf i).toNat)
  case atStart => exact ⟨0, Nat.zero_le _, rfl, Lib.hid (fun j hj => by omega)⟩
  case round =>
    obtain ⟨k, hk, rfl, hn⟩ := hrel
    by_cases hlt : k < l.length
    · obtain ⟨b, hbk⟩ : ∃ b, l[k]? = some b := ⟨l[k], List.getElem?_eq_getElem hlt⟩
      obtain ⟨g, o, rfl, hcell⟩ := hb.cells k b hbk
      unfold sv at hcell
      cases hs : seq p b
      · have hn2 : RowKit.Hid (∀ j, j < k + 1 → ∀ b, l[j]? = some b → p ≠ b) := Lib.hid (by
          intro j hj c hc
          by_cases hjk : j = k
          · subst hjk
            rw [hbk] at hc; cases hc
            exact seq_false.1 hs
          · exact hn.out j (by omega) c hc)
        clear hbk
        go_wp2
        go_round
        case rel => exact ⟨k + 1, by omega, by go_num, hn2⟩
        case measure => simp [intOf]; omega
      · have hfin : RowKit.Hid (Tk.ixOf l p = k) := Lib.hid (ixOf_step l p k b hbk hn.out hs)
        clear hbk
        go_wp2
        go_ret
        exact ⟨by rw [hfin.out]; rfl, rfl⟩
    · have hfin : RowKit.Hid (Tk.ixOf l p = -1) := Lib.hid (Tk.ixOf_none l p fun a ha => by
        obtain ⟨j, hj⟩ := List.getElem?_of_mem ha
        exact hn.out j (by have := (List.getElem?_eq_some_iff.1 hj).1; omega) a hj)
      go_wp2
      go_ret
      exact ⟨by rw [hfin.out]; rfl, rfl⟩
theorem kindOf_any (p : List UInt8) (w : World) (hw : Pres w) :
    Calls Tryd.prog 88 #[.slice (some ⟨1, 0, none⟩) 7 7, .string (str p)] w fun e w' => e = .returned (.int .i64 (Tk.kindOf p)) ∧ w = w' := slicesIndex_any _ _ p w hw.sl0

theorem parse_any (s : List UInt8) (hs : s.length ≤ 9223372036854775807) (w : World) (hw : Pres w) :
    Calls Tryd.prog 112 #[.string (str s)] w fun e w' => e = .returned (.tuple #[.int .i64 (Tk.pk s), .int .u64 (V (Tk.pn s)), .bool (Tk.pok s)]) ∧ Ext w w' := by
  cases hd : Tk.dok (Tk.cutR s)
  · have hfin := Lib.hid (Tk.parse_no1 hd)
    go_enter Tryd.func112, Tryd.ntmps112
    go_wp2_with (first
      | (go_at_call 119; refine (cut_any _ hs _).mono ?_; rintro e w' ⟨rfl, h⟩)
      | (go_at_call 120; refine (draw_any _ _).mono ?_; rintro e w' ⟨rfl, rfl⟩)
      | (go_at_call 88; refine (kindOf_any _ _ (hw.ext h)).mono ?_; rintro e w' ⟨rfl, rfl⟩))
    go_ret3
    exact ⟨by rw [hfin.out.1, hfin.out.2.1, hfin.out.2.2]; rfl, h⟩
  · by_cases hk : Tk.kindOf (Tk.cutP s) < 1
    · have hfin := Lib.hid (Tk.parse_no2 hk)
      go_enter Tryd.func112, Tryd.ntmps112
      go_wp2_with (first
        | (go_at_call 119; refine (cut_any _ hs _).mono ?_; rintro e w' ⟨rfl, h⟩)
        | (go_at_call 120; refine (draw_any _ _).mono ?_; rintro e w' ⟨rfl, rfl⟩)
        | (go_at_call 88; refine (kindOf_any _ _ (hw.ext h)).mono ?_; rintro e w' ⟨rfl, rfl⟩))
      go_ret3
      exact ⟨by rw [hfin.out.1, hfin.out.2.1, hfin.out.2.2]; rfl, h⟩
    · have hfin := Lib.hid (Tk.parse_yes hd hk)
      go_enter Tryd.func112, Tryd.ntmps112
      go_wp2_with (first
        | (go_at_call 119; refine (cut_any _ hs _).mono ?_; rintro e w' ⟨rfl, h⟩)
        | (go_at_call 120; refine (draw_any _ _).mono ?_; rintro e w' ⟨rfl, rfl⟩)
        | (go_at_call 88; refine (kindOf_any _ _ (hw.ext h)).mono ?_; rintro e w' ⟨rfl, rfl⟩))
      go_ret3
      exact ⟨by rw [hfin.out.1, hfin.out.2.1, hfin.out.2.2]; rfl, h⟩
/-- is a text a name of a kind? -/
def isI (s : List UInt8) (k : Int) : Bool := Tk.pok s && (Tk.pk s == k)
theorem is_any (s : List UInt8) (hs : s.length ≤ 9223372036854775807) (k : Int) (w : World) (hw : Pres w) :
    Calls Tryd.prog 99 #[.string (str s), .int .i64 k] w fun e w' => e = .returned (.bool (isI s k)) ∧ Ext w w' := by
  cases hp : Tk.pok s
  · have hfin : RowKit.Hid (isI s k = false) := Lib.hid (by unfold isI; rw [hp]; rfl)
    go_enter Tryd.func99, Tryd.ntmps99
    go_wp2_with (go_at_call 112; refine (parse_any _ hs _ hw).mono ?_; rintro e w' ⟨rfl, h⟩)
    go_ret
    exact ⟨by rw [hfin.out]; rfl, h⟩
  · have hfin : RowKit.Hid (isI s k = (Tk.pk s == k)) := Lib.hid (by unfold isI; rw [hp]; rfl)
    go_enter Tryd.func99, Tryd.ntmps99
    go_wp2_with (go_at_call 112; refine (parse_any _ hs _ hw).mono ?_; rintro e w' ⟨rfl, h⟩)
    go_ret
    exact ⟨by rw [hfin.out]; rfl, h⟩

/-! ### names -/
/-- block g holds just these bytes -/
def RowB (w : World) (g : Nat) (l : List UInt8) : Prop := ∃ cur : Array Value, w.heap[g]? = some (.cells cur 5 (0, 0)) ∧ cur.toList = l.map u8v
theorem RowB.set {w : World} {g : Nat} {l : List UInt8} (h : RowB w g l) (j : Nat) (c : UInt8) : RowB (w.setCell ⟨g, j, none⟩ (.int .u8 (c.toNat : Int))) g (l.set j c) := by
  obtain ⟨cur, h1, h2⟩ := h
  refine ⟨_, setCell_row w g j cur _ _ _ h1, ?_⟩
  rw [Array.toList_setIfInBounds, h2, List.map_set]; rfl
theorem RowB.cell {w : World} {g : Nat} {l : List UInt8} (h : RowB w g l) (j : Nat) (hj : j < l.length) : w.cell? ⟨g, j, none⟩ = some (.int .u8 ((l.getD j 0).toNat : Int)) := by
  obtain ⟨cur, h1, h2⟩ := h
  rw [cell_of_row _ _ _ _ _ _ h1]
  have e : cur.toList[j]? = (l.map u8v)[j]? := by rw [h2]
  rw [List.getElem?_map, List.getElem?_eq_getElem hj] at e
  simpa [u8v, List.getD, hj] using e
theorem RowB.free {w : World} {g : Nat} {l : List UInt8} (h : RowB w g l) (j : Nat) : w.frozen? ⟨g, j, none⟩ = false := by
  obtain ⟨cur, h1, h2⟩ := h
  simp [World.frozen?, h1]
theorem RowB.bytes {w : World} {g n cap : Nat} {l : List UInt8} (h : RowB w g l) (hn : n = l.length) (hc : l.length ≤ cap) (hm : cap ≤ maxLen) : Bytes w (.slice (some ⟨g, 0, none⟩) n cap) l := by
  refine Bytes.row hn hc hm fun j hj => ?_
  rw [Nat.zero_add, h.cell j hj]
  simp [List.getD, hj]
theorem RowB.made {w : World} {g : Nat} {C : Array Value} {l : List UInt8} (hg : g = w.heap.size) (hC : C.toList = l.map u8v) : RowB (w.alloc (.cells C 5)) g l := by
  subst hg
  exact ⟨C, heap_alloc_new w _, hC⟩
def zero16 : Array Value := ((List.replicate 16 0).map u8v).toArray

end Go.Proofs.YtmdepmohfnficaaDoor
