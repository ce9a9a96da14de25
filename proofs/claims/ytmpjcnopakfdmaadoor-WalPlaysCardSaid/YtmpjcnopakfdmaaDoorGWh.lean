/- What is done to a log, as cells: how a slice of it is opened. -/
import Derived.Test.YtmpjcnopakfdmaaDoorFrOpen
import Derived.Test.YtmpjcnopakfdmaaDoorGDk
import Derived.Test.YtmpjcnopakfdmaaDoorOpen
import Derived.Deep.Grids
import Derived.Test.YtmpjcnopakfdmaaDoorFrF
namespace Go.Proofs.YtmpjcnopakfdmaaDoor
set_option linter.unusedVariables false
set_option linter.unusedSimpArgs false
open Go.ChangeShapes Go.WideShapes Go.ChangeAt Go.RowKit
set_option maxRecDepth 20000
structure Wop where
  what : Int
  n : Int
  bs : List UInt8
  ls : List (List UInt8)
  ps : List Bool
def WopAt (w : World) (g o : Nat) (x : Wop) (vb vl vp : Value) : Prop :=
  w.rangeAt g o [.int .i64 x.what, .int .i64 x.n, vb, vl, vp] ∧ Bytes w vb x.bs ∧ LL w vl x.ls ∧ Sl bv w vp x.ps ∧ -9223372036854775808 ≤ x.n ∧ x.n ≤ 9223372036854775807
def Wops (w : World) (v : Value) (l : List Wop) : Prop := ∃ a cap, v = .slice a l.length cap ∧ l.length ≤ cap ∧ cap ≤ maxLen ∧ (∀ j x, l[j]? = some x → ∃ g o, a = some ⟨g, o, none⟩ ∧ ∃ vb vl vp, WopAt w g (o + 5 * j) x vb vl vp)
theorem cellsB' : Tryd.prog.cellsOf 4 = 1 := by kernel_rfl
theorem cellsWop : Tryd.prog.cellsOf 61 = 5 := by kernel_rfl
theorem cellsLs : Tryd.prog.cellsOf 23 = 1 := by kernel_rfl
theorem cellsPs : Tryd.prog.cellsOf 55 = 1 := by kernel_rfl
theorem cellsI' : Tryd.prog.cellsOf 3 = 1 := by kernel_rfl
section
variable {H : Type} {enc : TypeId × Value → H} {W : World} {n : Nat} {v : Value} {x : DataW H × List MemPlace}
theorem bls_of (hf : DataW.trod enc Tryd.prog W 0 (fun _ => true) true n 55 [v] = some x) : ∃ l, Sl bv W v l := by
  rcases Go.Deep.open_bools Tryd.underlying55 Tryd.underlying4 cellsB' hf with ⟨hcs, hx⟩ | ⟨a, len, cap, B, hcs, _, hl, hm, hx, hcell⟩
  · obtain rfl : v = .slice none 0 0 := by simpa using hcs
    exact ⟨[], Sl.nil W⟩
  · obtain rfl : v = .slice (some a) len cap := by simpa using hcs
    have hlen : ((List.range len).map B).length = len := by simp
    refine ⟨(List.range len).map B, some a, cap, by rw [hlen], by rw [hlen]; exact hl, hm, fun h => by simp at h, fun j x hj => ?_⟩
    have hj' : j < len := by rw [← hlen]; exact (List.getElem?_eq_some_iff.1 hj).1
    have h0 := hcell 0 (by omega)
    have hc := hcell j (by omega)
    obtain ⟨g, o, rfl⟩ : ∃ g o, a = ⟨g, o, none⟩ := sel_none h0
    refine ⟨g, o, rfl, ?_⟩
    rw [Addr.add_lit] at hc
    rw [hc]
    rw [List.getElem?_map, List.getElem?_range hj'] at hj
    simp only [Option.map_some, Option.some.injEq] at hj
    rw [← hj]; rfl
theorem wop_of {cs : List Value} (hf : DataW.trod enc Tryd.prog W 0 (fun _ => true) true n 61 cs = some x) :
    ∃ (q : Wop) (vb vl vp : Value), cs = [.int .i64 q.what, .int .i64 q.n, vb, vl, vp] ∧ Bytes W vb q.bs ∧ LL W vl q.ls ∧ Sl bv W vp q.ps ∧ -9223372036854775808 ≤ q.n ∧ q.n ≤ 9223372036854775807 := by
  obtain ⟨xs, m, _, _, hl, hn, h⟩ := DataW.trod_struct Tryd.underlying61 hf
  rw [cellsWop] at hl
  match cs, hl with
  | [c0, c1, c2, c3, c4], _ =>
    have hn5 : xs.length = 5 := hn
    match xs, hn5 with
    | [y0, y1, y2, y3, y4], _ =>
      have h0 : DataW.trod enc Tryd.prog W 0 (fun _ => true) true m 3 (([c0, c1, c2, c3, c4].drop 0).take (Tryd.prog.cellsOf 3)) = [y0, y1, y2, y3, y4][0]? := h 0 _ rfl
      have h1 : DataW.trod enc Tryd.prog W 0 (fun _ => true) true m 3 (([c0, c1, c2, c3, c4].drop 1).take (Tryd.prog.cellsOf 3)) = [y0, y1, y2, y3, y4][1]? := h 1 _ rfl
      have h2 : DataW.trod enc Tryd.prog W 0 (fun _ => true) true m 22 (([c0, c1, c2, c3, c4].drop 2).take (Tryd.prog.cellsOf 22)) = [y0, y1, y2, y3, y4][2]? := h 2 _ rfl
      have h3 : DataW.trod enc Tryd.prog W 0 (fun _ => true) true m 23 (([c0, c1, c2, c3, c4].drop 3).take (Tryd.prog.cellsOf 23)) = [y0, y1, y2, y3, y4][3]? := h 3 _ rfl
      have h4 : DataW.trod enc Tryd.prog W 0 (fun _ => true) true m 55 (([c0, c1, c2, c3, c4].drop 4).take (Tryd.prog.cellsOf 55)) = [y0, y1, y2, y3, y4][4]? := h 4 _ rfl
      simp only [cellsBs, cellsLs, cellsPs, cellsI', List.drop_zero, List.drop_succ_cons, List.take_succ_cons, List.take_zero, List.getElem?_cons_zero, List.getElem?_cons_succ] at h0 h1 h2 h3 h4
      obtain ⟨n0, e0, -, -⟩ := DataW.trod_int Tryd.underlying3 h0
      obtain ⟨n1, e1, -, hw⟩ := DataW.trod_int Tryd.underlying3 h1
      obtain ⟨l2, hb⟩ := bytes_of h2
      obtain ⟨l3, hll⟩ := ll_of h3
      obtain ⟨l4, hp⟩ := bls_of h4
      obtain rfl : c0 = .int .i64 n0 := by simpa using e0
      obtain rfl : c1 = .int .i64 n1 := by simpa using e1
      have hr : -9223372036854775808 ≤ n1 ∧ n1 ≤ 9223372036854775807 := by
        simp [Lit.wf, IntKind.min, IntKind.max, IntKind.signed, IntKind.bits] at hw
        omega
      exact ⟨⟨n0, n1, l2, l3, l4⟩, c2, c3, c4, rfl, hb, hll, hp, hr.1, hr.2⟩
end
section
variable {H : Type} {enc : TypeId × Value → H} {W : World} {base : Nat} {v : Value} {d : DataW H} {p : List MemPlace}
theorem open_wops (hval : Value.okWide Tryd.prog W .any base 59 v) (h : DataW.Trod enc Tryd.prog W 0 (fun _ => true) true 59 v d p) : ∃ l, Wops W v l := by
  obtain ⟨a0, len0, cap0, rfl⟩ := okWide_slice Tryd.underlying59 hval
  obtain ⟨fuel, hf⟩ := h
  rcases Go.Deep.open_slice Tryd.underlying59 hf with ⟨hcs, -⟩ | ⟨a, len, cap, m, n, D, Pl, hcs, _, hl, hm, hmm, _, hi⟩
  · simp [Value.cells] at hcs
    obtain ⟨rfl, rfl, rfl⟩ := hcs
    exact ⟨[], none, 0, rfl, Nat.le_refl _, by simp [maxLen], fun j x h => by simp at h⟩
  · simp [Value.cells] at hcs
    obtain ⟨rfl, rfl, rfl⟩ := hcs
    simp only [if_true] at hmm
    subst hmm
    obtain ⟨l, hll, hq⟩ : ∃ l : List Wop, l.length = len0 ∧ ∀ i x, l[i]? = some x → ∃ g o, some a = some ⟨g, o, none⟩ ∧ ∃ vb vl vp, WopAt W g (o + 5 * i) x vb vl vp := list_of len0 fun i hil => by
      obtain ⟨cs', hc, ht⟩ := hi i (by omega)
      obtain ⟨q, vb, vl, vp, rfl, hb, hv, hp, r1, r2⟩ := wop_of ht
      rw [cellsWop] at hc
      obtain ⟨-, -, hat⟩ := World.cells?_some hc
      obtain ⟨cs0, hc0, -⟩ := hi 0 (by omega)
      rw [cellsWop] at hc0
      obtain ⟨-, hl0, hat0⟩ := World.cells?_some hc0
      have hat00 := hat0 0 (by omega)
      rw [Nat.zero_mul, Addr.add_zero', Addr.add_zero', List.getElem?_eq_getElem (by omega)] at hat00
      obtain ⟨g', o', rfl⟩ := sel_none hat00
      refine ⟨q, g', o', rfl, vb, vl, vp, fun j u hu => ?_, hb, hv, hp, r1, r2⟩
      have hj : j < 5 := (List.getElem?_eq_some_iff.1 hu).1
      have := hat j hj
      rw [Addr.add_lit, Addr.add_lit, hu] at this
      rw [← this, Nat.mul_comm 5 i]
    exact ⟨l, some a, m, by rw [hll], by omega, hm, hq⟩
end
theorem Wops.ext {w w' : World} {v : Value} {l : List Wop} (h : Wops w v l) (e : Ext w w') : Wops w' v l := by
  obtain ⟨a, cap, h1, h2, h3, h4⟩ := h
  refine ⟨a, cap, h1, h2, h3, fun j x hj => ?_⟩
  obtain ⟨g, o, ha, vb, vl, vp, hr, hb, hv, hp, r⟩ := h4 j x hj
  exact ⟨g, o, ha, vb, vl, vp, fun k u hu => e.cell (hr k u hu), hb.ext e, hv.ext e, hp.ext e, r⟩
end Go.Proofs.YtmpjcnopakfdmaaDoor


namespace Go.Proofs.YtmpjcnopakfdmaaDoor
set_option linter.unusedVariables false
set_option linter.unusedSimpArgs false
open Go.RowKit Fr

def okW (x : Wop) : Bool := fewF x.ls && (!(decide (100 < x.bs.length) && decide (x.bs.length ≤ 4000)) && decide (x.ps.length ≤ 50))
def fewW (l : List Wop) : Bool := l.all okW && decide (l.length ≤ 25)
theorem Wops.get {w : World} {v : Value} {l : List Wop} (h : Wops w v l) : ∃ a cap, v = .slice a l.length cap ∧ l.length ≤ 9223372036854775807 ∧ ∀ j (hj : j < l.length), ∃ g o, a = some ⟨g, o, none⟩ ∧ ∃ vb vl vp, w.rangeAt g (o + j * 5) [.int .i64 l[j].what, .int .i64 l[j].n, vb, vl, vp] ∧ Bytes w vb l[j].bs ∧ LL w vl l[j].ls ∧ Sl bv w vp l[j].ps ∧ -9223372036854775808 ≤ l[j].n ∧ l[j].n ≤ 9223372036854775807 := by
  obtain ⟨a, cap, h1, h2, h3, h4⟩ := h
  refine ⟨a, cap, h1, by unfold maxLen at h3; omega, fun j hj => ?_⟩
  obtain ⟨g, o, ha, vb, vl, vp, h⟩ := h4 j l[j] (List.getElem?_eq_getElem hj)
  refine ⟨g, o, ha, vb, vl, vp, ?_⟩
  rw [Nat.mul_comm 5 j] at h
  exact h
theorem fewW_no {l : List Wop} {j : Nat} (hj : j < l.length) (h : okW l[j] = false) : fewW l = false := by
  unfold fewW
  have : l.all okW = false := by rw [List.all_eq_false]; exact ⟨l[j], List.getElem_mem hj, by simp [h]⟩
  rw [this]; rfl
set_option maxRecDepth 20000 in
set_option maxHeartbeats 1000000 in
theorem fewW_any (v : Value) (l : List Wop) (w : World) (h : Wops w v l) :
    Calls Tryd.prog 31 #[v] w fun e w' => e = .returned (.bool (fewW l)) ∧ w = w' := by
  obtain ⟨a, cap, rfl, hlm, hget⟩ := h.get
  have hgh := Lib.hid hget
  clear h hget
  go_enter Tryd.func31, Tryd.ntmps31
  go_wp2
  go_loopw [3] (fun i wr => ∃ k : Nat, k ≤ l.length ∧ i = .int .i64 (k : Int) ∧ RowKit.Hid ((l.take k).all okW = true) ∧ wr = w) (fun i _ => l.length - (intOf i).toNat)
  case atStart => exact ⟨0, Nat.zero_le _, rfl, Lib.hid rfl, rfl⟩
  case round =>
    obtain ⟨k, hk, rfl, ho, rfl⟩ := hrel
    by_cases hlt : k < l.length
    · obtain ⟨g, o, rfl, vb, vl, vp, hr, hb, hl, hp, -⟩ := hgh.out k hlt
      have hfw := few09_any vl _ wr hl
      obtain ⟨ab, cb, rfl, -⟩ := hb
      obtain ⟨ap, cp, rfl, -⟩ := hp
      obtain ⟨al, cl, rfl, -⟩ := hl.get
      have c2 := hr 2 _ rfl
      have c3 := hr 3 _ rfl
      have c4 := hr 4 _ rfl
      have hki : (k : Int) < (l.length : Int) := by omega
      have hnx := Lib.hid (fun (h : okW l[k] = true) => (by rw [List.take_add_one, List.getElem?_eq_getElem hlt, List.all_append, ho.out]; simp [h] : (l.take (k + 1)).all okW = true))
      have hno := Lib.hid (@fewW_no l k hlt)
      have hoi := Lib.hid (show okW l[k] = (fewF l[k].ls && (!(decide (100 < l[k].bs.length) && decide (l[k].bs.length ≤ 4000)) && decide (l[k].ps.length ≤ 50))) from rfl)
      rw [hoi.out] at hnx hno
      clear hr hl hoi
      generalize l[k] = x at *
      cases hf : fewF x.ls
      · have hn := Lib.hid (hno.out (by rw [hf]; rfl))
        rw [hf] at hfw
        clear hno hnx
        go_wp2_with (go_at_call 13; refine hfw.mono ?_; rintro e w1 ⟨rfl, rfl⟩)
        go_ret
        exact ⟨by rw [hn.out]; rfl, rfl⟩
      · rw [hf] at hfw
        by_cases h5 : x.ps.length ≤ 50
        · have d5 : decide ((50 : Int) < (x.ps.length : Int)) = false := by rw [decide_eq_false_iff_not]; omega
          by_cases h2 : 100 < x.bs.length
          · have d2 : decide ((100 : Int) < (x.bs.length : Int)) = true := by rw [decide_eq_true_iff]; omega
            by_cases h3 : x.bs.length ≤ 4000
            · have d3 : decide ((x.bs.length : Int) ≤ 4000) = true := by rw [decide_eq_true_iff]; omega
              have hn := Lib.hid (hno.out (by rw [hf, decide_eq_true h2, decide_eq_true h3]; rfl))
              clear hno hnx
              go_wp2_with (go_at_call 13; refine hfw.mono ?_; rintro e w1 ⟨rfl, rfl⟩)
              go_ret
              exact ⟨by rw [hn.out]; rfl, rfl⟩
            · have d3 : decide ((x.bs.length : Int) ≤ 4000) = false := by rw [decide_eq_false_iff_not]; omega
              have hn := Lib.hid (hnx.out (by rw [hf, decide_eq_false h3, decide_eq_true h5]; simp))
              clear hno hnx
              go_wp2_with (go_at_call 13; refine hfw.mono ?_; rintro e w1 ⟨rfl, rfl⟩)
              go_roundw
              case rel => exact ⟨k + 1, by omega, by go_num, hn, trivial⟩
              case measure => simp [intOf]; omega
          · have d2 : decide ((100 : Int) < (x.bs.length : Int)) = false := by rw [decide_eq_false_iff_not]; omega
            have hn := Lib.hid (hnx.out (by rw [hf, decide_eq_false h2, decide_eq_true h5]; simp))
            clear hno hnx
            go_wp2_with (go_at_call 13; refine hfw.mono ?_; rintro e w1 ⟨rfl, rfl⟩)
            go_roundw
            case rel => exact ⟨k + 1, by omega, by go_num, hn, trivial⟩
            case measure => simp [intOf]; omega
        · have d5 : decide ((50 : Int) < (x.ps.length : Int)) = true := by rw [decide_eq_true_iff]; omega
          have hn := Lib.hid (hno.out (by rw [decide_eq_false h5]; simp))
          clear hno hnx
          by_cases h2 : 100 < x.bs.length
          · have d2 : decide ((100 : Int) < (x.bs.length : Int)) = true := by rw [decide_eq_true_iff]; omega
            by_cases h3 : x.bs.length ≤ 4000
            · have d3 : decide ((x.bs.length : Int) ≤ 4000) = true := by rw [decide_eq_true_iff]; omega
              go_wp2_with (go_at_call 13; refine hfw.mono ?_; rintro e w1 ⟨rfl, rfl⟩)
              go_ret
              exact ⟨by rw [hn.out]; rfl, rfl⟩
            · have d3 : decide ((x.bs.length : Int) ≤ 4000) = false := by rw [decide_eq_false_iff_not]; omega
              go_wp2_with (go_at_call 13; refine hfw.mono ?_; rintro e w1 ⟨rfl, rfl⟩)
              go_ret
              exact ⟨by rw [hn.out]; rfl, rfl⟩
          · have d2 : decide ((100 : Int) < (x.bs.length : Int)) = false := by rw [decide_eq_false_iff_not]; omega
            go_wp2_with (go_at_call 13; refine hfw.mono ?_; rintro e w1 ⟨rfl, rfl⟩)
            go_ret
            exact ⟨by rw [hn.out]; rfl, rfl⟩
    · obtain rfl : k = l.length := by omega
      have hf : fewW l = decide ((l.length : Int) ≤ 25) := by
        have := ho.out
        rw [List.take_length] at this
        unfold fewW
        rw [this, Bool.true_and, Bool.eq_iff_iff, decide_eq_true_iff, decide_eq_true_iff]; omega
      have hfh := Lib.hid hf
      clear ho hf
      go_wp2
      go_ret
      exact ⟨by rw [hfh.out]; rfl, rfl⟩
end Go.Proofs.YtmpjcnopakfdmaaDoor


