/- The chapter's example of expiry. -/
import Derived.Test.YtmdepmohfnficaaDoorFxB
namespace Go.Proofs.YtmdepmohfnficaaDoor
set_option linter.unusedVariables false
set_option linter.unusedSimpArgs false
open Go.RowKit Rk

def nmS : List UInt8 := Tk.nameI 2 (1#64).toNat
def nmT : List UInt8 := Tk.nameI 1 (1#64).toNat
def rS : Rec := ⟨2, nmS, nmT, [], [], [], 5, 5, 0, false⟩
def tS : Rec := ⟨2, nmS, nmT, [], [], [], 5, 7, 1, false⟩
def fP : Nat → Int := upd (fun _ => 0) 2 10
def fQ : Nat → Int := upd (fun _ => 0) 16 1
theorem touch_S : touch rS 7 = tS := by decide +kernel
theorem live_facts : liveI fP rS 14 = true ∧ liveI fP rS 15 = false ∧ liveI fQ rS 15 = true ∧ liveI fQ tS 15 = false := by decide
theorem fP_ok : ∀ j, j < 21 → 0 ≤ fP j ∧ fP j ≤ 1099511627776 := by decide
theorem name_S (w : World) : Calls Tryd.prog 53 #[.int .i64 2, .int .u64 1] w fun e w' => e = .returned (.tuple #[.string (str nmS), .int .i64 (Tk.errI 2)]) ∧ w = w' := refName_any 2 1#64 w
theorem name_T (w : World) : Calls Tryd.prog 53 #[.int .i64 1, .int .u64 1] w fun e w' => e = .returned (.tuple #[.string (str nmT), .int .i64 (Tk.errI 1)]) ∧ w = w' := refName_any 1 1#64 w
theorem rS_cells : rcells rS = #[.int .i64 2, .string (str nmS), .string (str nmT), .string (str []), .string (str []), .string (str []), .int .i64 5, .int .i64 5, .int .i64 0, .bool false] := rfl
theorem tS_cells : rcells tS = #[.int .i64 2, .string (str nmS), .string (str nmT), .string (str []), .string (str []), .string (str []), .int .i64 5, .int .i64 7, .int .i64 1, .bool false] := rfl
theorem fP_cells : pcA fP = #[.int .i64 0, .int .i64 0, .int .i64 10, .int .i64 0, .int .i64 0, .int .i64 0, .int .i64 0, .int .i64 0, .int .i64 0, .int .i64 0, .int .i64 0, .int .i64 0, .int .i64 0, .int .i64 0, .int .i64 0, .int .i64 0, .int .i64 0, .int .i64 0, .int .i64 0, .int .i64 0, .int .i64 0] := rfl
theorem fQ_cells : pcA fQ = #[.int .i64 0, .int .i64 0, .int .i64 0, .int .i64 0, .int .i64 0, .int .i64 0, .int .i64 0, .int .i64 0, .int .i64 0, .int .i64 0, .int .i64 0, .int .i64 0, .int .i64 0, .int .i64 0, .int .i64 0, .int .i64 0, .int .i64 1, .int .i64 0, .int .i64 0, .int .i64 0, .int .i64 0] := rfl
theorem tch (w : World) : Calls Tryd.prog 54 #[.agg #[.int .i64 2, .string (str nmS), .string (str nmT), .string (str []), .string (str []), .string (str []), .int .i64 5, .int .i64 5, .int .i64 0, .bool false], .int .i64 7] w fun e w' => e = .returned (.agg #[.int .i64 2, .string (str nmS), .string (str nmT), .string (str []), .string (str []), .string (str []), .int .i64 5, .int .i64 7, .int .i64 1, .bool false]) ∧ Ext w w' := by
  have h := touch_any rS 7 (by decide) (by decide) w
  rw [touch_S, rS_cells, tS_cells] at h
  exact h
theorem lv1 (w : World) : Calls Tryd.prog 17 #[.agg #[.int .i64 0, .int .i64 0, .int .i64 10, .int .i64 0, .int .i64 0, .int .i64 0, .int .i64 0, .int .i64 0, .int .i64 0, .int .i64 0, .int .i64 0, .int .i64 0, .int .i64 0, .int .i64 0, .int .i64 0, .int .i64 0, .int .i64 0, .int .i64 0, .int .i64 0, .int .i64 0, .int .i64 0], .agg #[.int .i64 2, .string (str nmS), .string (str nmT), .string (str []), .string (str []), .string (str []), .int .i64 5, .int .i64 5, .int .i64 0, .bool false], .int .i64 14] w fun e w' => e = .returned (.bool true) ∧ Ext w w' := by
  have h := live_any fP rS 14 (by decide) (by decide) (by decide) (by decide) (by decide) (by decide) w
  rw [live_facts.1, rS_cells, fP_cells] at h
  exact h
theorem lv2 (w : World) : Calls Tryd.prog 17 #[.agg #[.int .i64 0, .int .i64 0, .int .i64 10, .int .i64 0, .int .i64 0, .int .i64 0, .int .i64 0, .int .i64 0, .int .i64 0, .int .i64 0, .int .i64 0, .int .i64 0, .int .i64 0, .int .i64 0, .int .i64 0, .int .i64 0, .int .i64 0, .int .i64 0, .int .i64 0, .int .i64 0, .int .i64 0], .agg #[.int .i64 2, .string (str nmS), .string (str nmT), .string (str []), .string (str []), .string (str []), .int .i64 5, .int .i64 5, .int .i64 0, .bool false], .int .i64 15] w fun e w' => e = .returned (.bool false) ∧ Ext w w' := by
  have h := live_any fP rS 15 (by decide) (by decide) (by decide) (by decide) (by decide) (by decide) w
  rw [live_facts.2.1, rS_cells, fP_cells] at h
  exact h
theorem lv3 (w : World) : Calls Tryd.prog 17 #[.agg #[.int .i64 0, .int .i64 0, .int .i64 0, .int .i64 0, .int .i64 0, .int .i64 0, .int .i64 0, .int .i64 0, .int .i64 0, .int .i64 0, .int .i64 0, .int .i64 0, .int .i64 0, .int .i64 0, .int .i64 0, .int .i64 0, .int .i64 1, .int .i64 0, .int .i64 0, .int .i64 0, .int .i64 0], .agg #[.int .i64 2, .string (str nmS), .string (str nmT), .string (str []), .string (str []), .string (str []), .int .i64 5, .int .i64 5, .int .i64 0, .bool false], .int .i64 15] w fun e w' => e = .returned (.bool true) ∧ Ext w w' := by
  have h := live_any fQ rS 15 (by decide) (by decide) (by decide) (by decide) (by decide) (by decide) w
  rw [live_facts.2.2.1, rS_cells, fQ_cells] at h
  exact h
theorem lv4 (w : World) : Calls Tryd.prog 17 #[.agg #[.int .i64 0, .int .i64 0, .int .i64 0, .int .i64 0, .int .i64 0, .int .i64 0, .int .i64 0, .int .i64 0, .int .i64 0, .int .i64 0, .int .i64 0, .int .i64 0, .int .i64 0, .int .i64 0, .int .i64 0, .int .i64 0, .int .i64 1, .int .i64 0, .int .i64 0, .int .i64 0, .int .i64 0], .agg #[.int .i64 2, .string (str nmS), .string (str nmT), .string (str []), .string (str []), .string (str []), .int .i64 5, .int .i64 7, .int .i64 1, .bool false], .int .i64 15] w fun e w' => e = .returned (.bool false) ∧ Ext w w' := by
  have h := live_any fQ tS 15 (by decide) (by decide) (by decide) (by decide) (by decide) (by decide) w
  rw [live_facts.2.2.2, tS_cells, fQ_cells] at h
  exact h
theorem rgt (w : World) : Calls Tryd.prog 55 #[.agg #[.int .i64 0, .int .i64 0, .int .i64 10, .int .i64 0, .int .i64 0, .int .i64 0, .int .i64 0, .int .i64 0, .int .i64 0, .int .i64 0, .int .i64 0, .int .i64 0, .int .i64 0, .int .i64 0, .int .i64 0, .int .i64 0, .int .i64 0, .int .i64 0, .int .i64 0, .int .i64 0, .int .i64 0]] w fun e w' => e = .returned (.bool true) ∧ Ext w w' := by
  have h := right_ok fP fP_ok w
  rw [fP_cells] at h
  exact h
theorem heap3 (w : World) (a b c : Obj) : (((w.alloc a).alloc b).alloc c).heap[w.heap.size]? = some a ∧ (((w.alloc a).alloc b).alloc c).heap[w.heap.size + 1]? = some b ∧ (((w.alloc a).alloc b).alloc c).heap[w.heap.size + 1 + 1]? = some c := by
  show (((w.heap.push a).push b).push c)[w.heap.size]? = some a ∧ (((w.heap.push a).push b).push c)[w.heap.size + 1]? = some b ∧ (((w.heap.push a).push b).push c)[w.heap.size + 1 + 1]? = some c
  simp only [Array.getElem?_push, Array.size_push]
  exact ⟨by rw [if_neg (by omega), if_neg (by omega), if_pos trivial], by rw [if_neg (by omega), if_pos trivial], by rw [if_pos trivial]⟩
attribute [local irreducible] nmS nmT pcA
set_option maxRecDepth 20000 in
set_option maxHeartbeats 2000000 in
theorem awake15_any (w : World) :
    Calls Tryd.prog 13 #[] w fun e w' => e = .returned (.bool true) ∧ Ext w w' := by
  have e0 := Ext.refl w
  go_enter Tryd.func13, Tryd.ntmps13
  go_upto_region 8 with (first
    | (go_at_call 53; first | ((with_reducible refine (name_S _).mono ?_); rintro e w' ⟨rfl, rfl⟩) | ((with_reducible refine (name_T _).mono ?_); rintro e w' ⟨rfl, rfl⟩)))
  have e3 : Ext w (((w.alloc (.cells #[.int .i64 2, .string (str nmS), .string (str nmT), .string (str []), .string (str []), .string (str []), .int .i64 5, .int .i64 5, .int .i64 0, .bool false] 36)).alloc (.cells #[.int .i64 0, .int .i64 0, .int .i64 10, .int .i64 0, .int .i64 0, .int .i64 0, .int .i64 0, .int .i64 0, .int .i64 0, .int .i64 0, .int .i64 0, .int .i64 0, .int .i64 0, .int .i64 0, .int .i64 0, .int .i64 0, .int .i64 0, .int .i64 0, .int .i64 0, .int .i64 0, .int .i64 0] 25)).alloc (.cells #[.int .i64 0, .int .i64 0, .int .i64 0, .int .i64 0, .int .i64 0, .int .i64 0, .int .i64 0, .int .i64 0, .int .i64 0, .int .i64 0, .int .i64 0, .int .i64 0, .int .i64 0, .int .i64 0, .int .i64 0, .int .i64 0, .int .i64 1, .int .i64 0, .int .i64 0, .int .i64 0, .int .i64 0] 25)) := ((e0.alloc _).alloc _).alloc _
  obtain ⟨h0, h1, h2⟩ := heap3 w (.cells #[.int .i64 2, .string (str nmS), .string (str nmT), .string (str []), .string (str []), .string (str []), .int .i64 5, .int .i64 5, .int .i64 0, .bool false] 36) (.cells #[.int .i64 0, .int .i64 0, .int .i64 10, .int .i64 0, .int .i64 0, .int .i64 0, .int .i64 0, .int .i64 0, .int .i64 0, .int .i64 0, .int .i64 0, .int .i64 0, .int .i64 0, .int .i64 0, .int .i64 0, .int .i64 0, .int .i64 0, .int .i64 0, .int .i64 0, .int .i64 0, .int .i64 0] 25) (.cells #[.int .i64 0, .int .i64 0, .int .i64 0, .int .i64 0, .int .i64 0, .int .i64 0, .int .i64 0, .int .i64 0, .int .i64 0, .int .i64 0, .int .i64 0, .int .i64 0, .int .i64 0, .int .i64 0, .int .i64 0, .int .i64 0, .int .i64 1, .int .i64 0, .int .i64 0, .int .i64 0, .int .i64 0] 25)
  generalize ((w.alloc (.cells #[.int .i64 2, .string (str nmS), .string (str nmT), .string (str []), .string (str []), .string (str []), .int .i64 5, .int .i64 5, .int .i64 0, .bool false] 36)).alloc (.cells #[.int .i64 0, .int .i64 0, .int .i64 10, .int .i64 0, .int .i64 0, .int .i64 0, .int .i64 0, .int .i64 0, .int .i64 0, .int .i64 0, .int .i64 0, .int .i64 0, .int .i64 0, .int .i64 0, .int .i64 0, .int .i64 0, .int .i64 0, .int .i64 0, .int .i64 0, .int .i64 0, .int .i64 0] 25)).alloc (.cells #[.int .i64 0, .int .i64 0, .int .i64 0, .int .i64 0, .int .i64 0, .int .i64 0, .int .i64 0, .int .i64 0, .int .i64 0, .int .i64 0, .int .i64 0, .int .i64 0, .int .i64 0, .int .i64 0, .int .i64 0, .int .i64 0, .int .i64 1, .int .i64 0, .int .i64 0, .int .i64 0, .int .i64 0] 25) = W3 at *
  clear e0
  generalize w.heap.size + 1 + 1 = B2 at *
  generalize w.heap.size + 1 = B1 at *
  generalize w.heap.size = B0 at *
  have e3h := Lib.hid e3
  have h0h := Lib.hid h0
  have h1h := Lib.hid h1
  have h2h := Lib.hid h2
  clear e3 h1 h2
  go_upto_region 9 with (first
    | (refine wpList_load_row rfl 36 _ rfl B0 rfl 36 #[.int .i64 2, .string (str nmS), .string (str nmT), .string (str []), .string (str []), .string (str []), .int .i64 5, .int .i64 5, .int .i64 0, .bool false] (0, 0) _ h0h.out Tryd.underlying36 rfl info_rec ?_)
    | (go_at_call 54; refine (tch _).mono ?_; rintro e W4 ⟨rfl, e4⟩; clear h0; have h8 := heap_alloc_new W4 (.cells #[.int .i64 2, .string (str nmS), .string (str nmT), .string (str []), .string (str []), .string (str []), .int .i64 5, .int .i64 7, .int .i64 1, .bool false] 36))
    | (refine wpList_store_new W4 rfl 36 _ _ rfl #[.int .i64 2, .string (str nmS), .string (str nmT), .string (str []), .string (str []), .string (str []), .int .i64 5, .int .i64 7, .int .i64 1, .bool false] _ rfl rfl rfl 10 info_rec rfl rfl rfl ?_))
  have e5 := (e4.alloc (.cells #[.int .i64 2, .string (str nmS), .string (str nmT), .string (str []), .string (str []), .string (str []), .int .i64 5, .int .i64 7, .int .i64 1, .bool false] 36))
  generalize W4.alloc (.cells #[.int .i64 2, .string (str nmS), .string (str nmT), .string (str []), .string (str []), .string (str []), .int .i64 5, .int .i64 7, .int .i64 1, .bool false] 36) = W5 at *
  generalize W4.heap.size = B8 at *
  have H0 := Lib.hid (fun W (e : Ext W5 W) => e.heap (e5.heap h0h.out))
  have H1 := Lib.hid (fun W (e : Ext W5 W) => e.heap (e5.heap h1h.out))
  have H2 := Lib.hid (fun W (e : Ext W5 W) => e.heap (e5.heap h2h.out))
  have H8 := Lib.hid (fun W (e : Ext W5 W) => e.heap h8)
  have C8 := Lib.hid (fun W (e : Ext W5 W) => (show W.cell? ⟨B8, 8, none⟩ = some (.int .i64 1) ∧ W.cell? ⟨B8, 7, none⟩ = some (.int .i64 7) from ⟨e.cell ((cell_of_row _ B8 8 _ _ _ h8).trans rfl), e.cell ((cell_of_row _ B8 7 _ _ _ h8).trans rfl)⟩))
  have e35 := Lib.hid (e3h.out.trans e5)
  clear e4 e5 h0h h1h h2h h8 e3h
  go_wp2_with (first
    | (refine wpList_load_rowG (by rfl) 25 _ rfl B1 rfl 25 #[.int .i64 0, .int .i64 0, .int .i64 10, .int .i64 0, .int .i64 0, .int .i64 0, .int .i64 0, .int .i64 0, .int .i64 0, .int .i64 0, .int .i64 0, .int .i64 0, .int .i64 0, .int .i64 0, .int .i64 0, .int .i64 0, .int .i64 0, .int .i64 0, .int .i64 0, .int .i64 0, .int .i64 0] (0, 0) _ (H1.out _ (by (repeat (first | exact Ext.refl _ | with_reducible assumption | refine Ext.drew ?_ | refine Ext.alloc ?_ _ | refine Ext.trans ?_ (by assumption))))) Tryd.underlying25 rfl info_pol ?_)
    | (refine wpList_load_rowG (by rfl) 25 _ rfl B2 rfl 25 #[.int .i64 0, .int .i64 0, .int .i64 0, .int .i64 0, .int .i64 0, .int .i64 0, .int .i64 0, .int .i64 0, .int .i64 0, .int .i64 0, .int .i64 0, .int .i64 0, .int .i64 0, .int .i64 0, .int .i64 0, .int .i64 0, .int .i64 1, .int .i64 0, .int .i64 0, .int .i64 0, .int .i64 0] (0, 0) _ (H2.out _ (by (repeat (first | exact Ext.refl _ | with_reducible assumption | refine Ext.drew ?_ | refine Ext.alloc ?_ _ | refine Ext.trans ?_ (by assumption))))) Tryd.underlying25 rfl info_pol ?_)
    | (refine wpList_load_rowG (by rfl) 36 _ rfl B0 rfl 36 #[.int .i64 2, .string (str nmS), .string (str nmT), .string (str []), .string (str []), .string (str []), .int .i64 5, .int .i64 5, .int .i64 0, .bool false] (0, 0) _ (H0.out _ (by (repeat (first | exact Ext.refl _ | with_reducible assumption | refine Ext.drew ?_ | refine Ext.alloc ?_ _ | refine Ext.trans ?_ (by assumption))))) Tryd.underlying36 rfl info_rec ?_)
    | (refine wpList_load_rowG (by rfl) 36 _ rfl B8 rfl 36 #[.int .i64 2, .string (str nmS), .string (str nmT), .string (str []), .string (str []), .string (str []), .int .i64 5, .int .i64 7, .int .i64 1, .bool false] (0, 0) _ (H8.out _ (by (repeat (first | exact Ext.refl _ | with_reducible assumption | refine Ext.drew ?_ | refine Ext.alloc ?_ _ | refine Ext.trans ?_ (by assumption))))) Tryd.underlying36 rfl info_rec ?_)
    | (go_at_call 17; first
        | ((with_reducible refine (lv1 _).mono ?_); rintro e W6 ⟨rfl, e6⟩)
        | ((with_reducible refine (lv2 _).mono ?_); rintro e W7 ⟨rfl, e7⟩)
        | ((with_reducible refine (lv3 _).mono ?_); rintro e W8 ⟨rfl, e8⟩)
        | ((with_reducible refine (lv4 _).mono ?_); rintro e W9 ⟨rfl, e9⟩; obtain ⟨k8, k7⟩ := C8.out W9 (by (repeat (first | exact Ext.refl _ | with_reducible assumption | refine Ext.drew ?_ | refine Ext.alloc ?_ _ | refine Ext.trans ?_ (by assumption))))))
    | (go_at_call 55; (with_reducible refine (rgt _).mono ?_); rintro e W10 ⟨rfl, e10⟩))
  go_ret
  exact ⟨rfl, e35.out.trans (by (repeat (first | exact Ext.refl _ | with_reducible assumption | refine Ext.drew ?_ | refine Ext.alloc ?_ _ | refine Ext.trans ?_ (by assumption))))⟩
end Go.Proofs.YtmdepmohfnficaaDoor
