/- What is done to trees, as it comes in; whether it is of a size that is looked at. -/
import Derived.Test.YtmdepmohfnficaaDoorTrO
import Derived.ChangeArms
namespace Go.Proofs.YtmdepmohfnficaaDoor
open Go.ChangeShapes Go.WideShapes Go.ChangeAt Go.RowKit Rk Tr

set_option maxRecDepth 20000
def orow (x : Top) : List Value := .int .i64 x.what :: prow x.r
theorem orow_len (x : Top) : (orow x).length = 11 := rfl
/-- what is done, side by side, as it is read -/
def TOps (w : World) (v : Value) (l : List Top) : Prop := Rw 11 (fun x cs => cs = orow x ∧ Fits x.r) w v l
theorem TOps.ext {w w' : World} {v : Value} {l : List Top} (h : TOps w v l) (e : Ext w w') : TOps w' v l := Rw.ext h e fun _ _ _ h => h
theorem cellsTI : Tryd.prog.cellsOf 3 = 1 := by kernel_rfl
theorem cellsTB : Tryd.prog.cellsOf 4 = 1 := by kernel_rfl
theorem cellsTS : Tryd.prog.cellsOf 9 = 1 := by kernel_rfl
theorem cellsTR : Tryd.prog.cellsOf 36 = 10 := by kernel_rfl
theorem cellsTO : Tryd.prog.cellsOf 52 = 11 := by kernel_rfl
section
variable {H : Type} {enc : TypeId × Value → H} {W : World} {base : Nat} {v : Value} {d : DataW H} {p : List MemPlace} {x : DataW H × List MemPlace}
theorem strT_of {n : Nat} {u : Value} (h : DataW.trod enc Tryd.prog W 0 (fun _ => true) true n 9 [u] = some x) : ∃ l : List UInt8, l.length ≤ 9223372036854775807 ∧ u = .string (str l) := by
  obtain ⟨s, h1, -, h3⟩ := DataW.trod_string Tryd.underlying9 h
  refine ⟨s.data.toList, ?_, (List.cons.inj h1).1⟩
  have : s.data.toList.length = s.size := rfl
  unfold maxLen at h3; omega
theorem intT_of {n : Nat} {u : Value} (h : DataW.trod enc Tryd.prog W 0 (fun _ => true) true n 3 [u] = some x) : ∃ z : Int, u = .int .i64 z := by
  obtain ⟨z, h1, -⟩ := DataW.trod_int Tryd.underlying3 h
  exact ⟨z, by simpa using h1⟩
theorem boolT_of {n : Nat} {u : Value} (h : DataW.trod enc Tryd.prog W 0 (fun _ => true) true n 4 [u] = some x) : ∃ z : Bool, u = .bool z := by
  obtain ⟨z, h1, -⟩ := DataW.trod_bool Tryd.underlying4 h
  exact ⟨z, by simpa using h1⟩
set_option maxHeartbeats 1000000 in
theorem rec_of {n : Nat} {cs : List Value} (hl : cs.length = 10) (hf : DataW.trod enc Tryd.prog W 0 (fun _ => true) true n 36 cs = some x) : ∃ r : Rec, cs = prow r ∧ Fits r := by
  obtain ⟨xs, m, _, _, -, hn, h⟩ := DataW.trod_struct Tryd.underlying36 hf
  match cs, hl with
  | [c0, c1, c2, c3, c4, c5, c6, c7, c8, c9], _ =>
    have hn2 : xs.length = 10 := hn
    match xs, hn2 with
    | [y0, y1, y2, y3, y4, y5, y6, y7, y8, y9], _ =>
      have h0 : DataW.trod enc Tryd.prog W 0 (fun _ => true) true m 3 (([c0, c1, c2, c3, c4, c5, c6, c7, c8, c9].drop 0).take (Tryd.prog.cellsOf 3)) = [y0, y1, y2, y3, y4, y5, y6, y7, y8, y9][0]? := h 0 _ rfl
      have h1 : DataW.trod enc Tryd.prog W 0 (fun _ => true) true m 9 (([c0, c1, c2, c3, c4, c5, c6, c7, c8, c9].drop 1).take (Tryd.prog.cellsOf 9)) = [y0, y1, y2, y3, y4, y5, y6, y7, y8, y9][1]? := h 1 _ rfl
      have h2 : DataW.trod enc Tryd.prog W 0 (fun _ => true) true m 9 (([c0, c1, c2, c3, c4, c5, c6, c7, c8, c9].drop 2).take (Tryd.prog.cellsOf 9)) = [y0, y1, y2, y3, y4, y5, y6, y7, y8, y9][2]? := h 2 _ rfl
      have h3 : DataW.trod enc Tryd.prog W 0 (fun _ => true) true m 9 (([c0, c1, c2, c3, c4, c5, c6, c7, c8, c9].drop 3).take (Tryd.prog.cellsOf 9)) = [y0, y1, y2, y3, y4, y5, y6, y7, y8, y9][3]? := h 3 _ rfl
      have h4 : DataW.trod enc Tryd.prog W 0 (fun _ => true) true m 9 (([c0, c1, c2, c3, c4, c5, c6, c7, c8, c9].drop 4).take (Tryd.prog.cellsOf 9)) = [y0, y1, y2, y3, y4, y5, y6, y7, y8, y9][4]? := h 4 _ rfl
      have h5 : DataW.trod enc Tryd.prog W 0 (fun _ => true) true m 9 (([c0, c1, c2, c3, c4, c5, c6, c7, c8, c9].drop 5).take (Tryd.prog.cellsOf 9)) = [y0, y1, y2, y3, y4, y5, y6, y7, y8, y9][5]? := h 5 _ rfl
      have h6 : DataW.trod enc Tryd.prog W 0 (fun _ => true) true m 3 (([c0, c1, c2, c3, c4, c5, c6, c7, c8, c9].drop 6).take (Tryd.prog.cellsOf 3)) = [y0, y1, y2, y3, y4, y5, y6, y7, y8, y9][6]? := h 6 _ rfl
      have h7 : DataW.trod enc Tryd.prog W 0 (fun _ => true) true m 3 (([c0, c1, c2, c3, c4, c5, c6, c7, c8, c9].drop 7).take (Tryd.prog.cellsOf 3)) = [y0, y1, y2, y3, y4, y5, y6, y7, y8, y9][7]? := h 7 _ rfl
      have h8 : DataW.trod enc Tryd.prog W 0 (fun _ => true) true m 3 (([c0, c1, c2, c3, c4, c5, c6, c7, c8, c9].drop 8).take (Tryd.prog.cellsOf 3)) = [y0, y1, y2, y3, y4, y5, y6, y7, y8, y9][8]? := h 8 _ rfl
      have h9 : DataW.trod enc Tryd.prog W 0 (fun _ => true) true m 4 (([c0, c1, c2, c3, c4, c5, c6, c7, c8, c9].drop 9).take (Tryd.prog.cellsOf 4)) = [y0, y1, y2, y3, y4, y5, y6, y7, y8, y9][9]? := h 9 _ rfl
      simp only [cellsTI, cellsTB, cellsTS, List.drop_zero, List.drop_succ_cons, List.take_succ_cons, List.take_zero, List.getElem?_cons_zero, List.getElem?_cons_succ] at h0 h1 h2 h3 h4 h5 h6 h7 h8 h9
      obtain ⟨x0, rfl⟩ := intT_of h0
      obtain ⟨x1, l1, rfl⟩ := strT_of h1
      obtain ⟨x2, l2, rfl⟩ := strT_of h2
      obtain ⟨x3, l3, rfl⟩ := strT_of h3
      obtain ⟨x4, l4, rfl⟩ := strT_of h4
      obtain ⟨x5, l5, rfl⟩ := strT_of h5
      obtain ⟨x6, rfl⟩ := intT_of h6
      obtain ⟨x7, rfl⟩ := intT_of h7
      obtain ⟨x8, rfl⟩ := intT_of h8
      obtain ⟨x9, rfl⟩ := boolT_of h9
      exact ⟨⟨x0, x1, x2, x3, x4, x5, x6, x7, x8, x9⟩, rfl, ⟨l1, l2, l3, l4, l5⟩⟩
theorem top_of {n : Nat} {cs : List Value} (hl : cs.length = 11) (hf : DataW.trod enc Tryd.prog W 0 (fun _ => true) true n 52 cs = some x) : ∃ o : Top, cs = orow o ∧ Fits o.r := by
  obtain ⟨xs, m, _, _, -, hn, h⟩ := DataW.trod_struct Tryd.underlying52 hf
  match cs, hl with
  | c0 :: cs, hl =>
    have hl10 : cs.length = 10 := by simpa using hl
    have hn2 : xs.length = 2 := hn
    match xs, hn2 with
    | [y0, y1], _ =>
      have h0 : DataW.trod enc Tryd.prog W 0 (fun _ => true) true m 3 (((c0 :: cs).drop 0).take (Tryd.prog.cellsOf 3)) = [y0, y1][0]? := h 0 _ rfl
      have h1 : DataW.trod enc Tryd.prog W 0 (fun _ => true) true m 36 (((c0 :: cs).drop 1).take (Tryd.prog.cellsOf 36)) = [y0, y1][1]? := h 1 _ rfl
      simp only [cellsTI, cellsTR, List.drop_zero, List.drop_succ_cons, List.take_succ_cons, List.take_zero, List.getElem?_cons_zero, List.getElem?_cons_succ] at h0
      rw [cellsTR, List.drop_succ_cons, List.drop_zero, List.take_of_length_le (by omega)] at h1
      obtain ⟨x0, rfl⟩ := intT_of h0
      obtain ⟨r, rfl, hfr⟩ := rec_of hl10 h1
      exact ⟨⟨x0, r⟩, rfl, hfr⟩
theorem open_tops (hval : Value.okWide Tryd.prog W .any base 42 v) (h : DataW.Trod enc Tryd.prog W 0 (fun _ => true) true 42 v d p) : ∃ l, TOps W v l :=
  let ⟨_, _, hf⟩ := okw_slice Tryd.underlying42 hval h
  rows_of Tryd.underlying42 cellsTO (by decide) (fun _ _ _ hl h => top_of hl h) hf
theorem open_recs (hval : Value.okWide Tryd.prog W .any base 22 v) (h : DataW.Trod enc Tryd.prog W 0 (fun _ => true) true 22 v d p) : ∃ l, Recs W v l :=
  let ⟨_, _, hf⟩ := okw_slice Tryd.underlying22 hval h
  rows_of Tryd.underlying22 cellsTR (by decide) (fun _ _ _ hl h => rec_of hl h) hf
end
namespace Tr
def fewT (l : List Top) : Bool := l.all (fun x => fewI x.r) && decide (l.length ≤ 60)
theorem fewT_no {l : List Top} {j : Nat} {x : Top} (hj : l[j]? = some x) (h : fewI x.r = false) : fewT l = false := by
  unfold fewT
  have : (l.all fun x => fewI x.r) = false := by rw [List.all_eq_false]; exact ⟨x, List.mem_of_getElem? hj, by simp [h]⟩
  rw [this]; rfl
theorem fewT_all {l : List Top} (h : ∀ j x, j < l.length → l[j]? = some x → fewI x.r = true) : fewT l = decide ((l.length : Int) ≤ 60) := by
  unfold fewT
  have : (l.all fun x => fewI x.r) = true := List.all_eq_true.2 fun x hx => by
    obtain ⟨j, hj⟩ := List.getElem?_of_mem hx
    exact h j x (List.getElem?_eq_some_iff.1 hj).1 hj
  rw [this, Bool.true_and, Bool.eq_iff_iff, decide_eq_true_iff, decide_eq_true_iff]; omega
end Tr
theorem range_tail {w : World} {g o : Nat} {u : Value} {cs : List Value} (h : w.rangeAt g o (u :: cs)) : w.rangeAt g (o + 1) cs := fun i x hx => by
  have := h (i + 1) x (by simpa using hx)
  rwa [show o + (i + 1) = o + 1 + i by omega] at this
attribute [local irreducible] rcells fewI
set_option maxRecDepth 20000 in
set_option maxHeartbeats 1000000 in
theorem fewT_any (v : Value) (l : List Top) (w : World) (h : TOps w v l) :
    Calls Tryd.prog 21 #[v] w fun e w' => e = .returned (.bool (fewT l)) ∧ Ext w w' := by
  obtain ⟨a, cap, rfl, hlm, hget⟩ := Rw.shape h
  clear h
  have e0 := Ext.refl w
  have hgh := Lib.hid hget
  clear hget
  go_enter Tryd.func21, Tryd.ntmps21
  go_wp2
  go_loopw [3] (fun i wr => ∃ k : Nat, k ≤ l.length ∧ i = .int .i64 (k : Int) ∧ RowKit.Hid (∀ j x, j < k → l[j]? = some x → fewI x.r = true) ∧ Ext w wr) (fun i _ => l.length - (intOf i).toNat)
  case atStart => exact ⟨0, Nat.zero_le _, rfl, Lib.hid fun j x hj => by omega, e0⟩
  case round =>
    obtain ⟨k, hk, rfl, ho, ek⟩ := hrel
    clear e0
    by_cases hlt : k < l.length
    · obtain ⟨x, hx⟩ := some_at hlt
      obtain ⟨g, o, cs, rfl, hr, rfl, hf⟩ := hgh.out k x hx
      have hki : (k : Int) < (l.length : Int) := by omega
      have hw : IntKind.i64.wrap ((k : Int) + 1) = (k : Int) + 1 := by rw [IntKind.wrap_i64]; omega
      have hr2 : wr.rangeAt g (o + k * 11 + 1) (prow x.r) := range_tail fun i u hu => ek.cell (hr i u hu)
      have hfw := few_any x.r wr
      have hno := Lib.hid (fewT_no hx)
      have hnx := Lib.hid (fun h => (fun j y hj hy => if e : j = k then by subst e; rw [hx] at hy; cases hy; exact h else ho.out j y (by omega) hy) : fewI x.r = true → ∀ j y, j < k + 1 → l[j]? = some y → fewI y.r = true)
      clear hr hx hf ho
      cases hs : fewI x.r
      · rw [hs] at hfw
        have hno2 := Lib.hid (hno.out hs)
        clear hnx hno
        go_wp2_with (first
          | (refine wpList_load_rec (by rfl) _ rfl g (o + k * 11 + 1) rfl x.r hr2 ?_)
          | (go_at_call 56; refine hfw.mono ?_; rintro e w2 ⟨rfl, e2⟩))
        go_ret
        exact ⟨by rw [hno2.out]; rfl, ek.trans e2⟩
      · rw [hs] at hfw
        have hnx2 := Lib.hid (hnx.out hs)
        clear hnx hno
        go_wp2_with (first
          | (refine wpList_load_rec (by rfl) _ rfl g (o + k * 11 + 1) rfl x.r hr2 ?_)
          | (go_at_call 56; refine hfw.mono ?_; rintro e w2 ⟨rfl, e2⟩))
        go_roundw
        case rel => exact ⟨k + 1, by omega, by go_num, Lib.hid hnx2.out, ek.trans e2⟩
        case measure => simp [intOf]; omega
    · obtain rfl : k = l.length := by omega
      have hf := Lib.hid (fewT_all ho.out)
      clear ho
      go_wp2
      go_ret
      exact ⟨by rw [hf.out]; rfl, ek⟩
end Go.Proofs.YtmdepmohfnficaaDoor
