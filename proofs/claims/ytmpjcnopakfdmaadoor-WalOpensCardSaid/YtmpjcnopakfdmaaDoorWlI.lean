/- What is done to a log: is it of a size that is looked at. -/
import Derived.Test.YtmpjcnopakfdmaaDoorWlH
import Derived.Test.YtmpjcnopakfdmaaDoorFrF
namespace Go.Proofs.YtmpjcnopakfdmaaDoor
set_option linter.unusedVariables false
set_option linter.unusedSimpArgs false
open Go.RowKit Fr

def okW (x : Wop) : Bool := fewF x.ls && (!(decide (100 < x.bs.length) && decide (x.bs.length ≤ 4000)) && decide (x.ps.length ≤ 50))
def fewW (l : List Wop) : Bool := l.all okW && decide (l.length ≤ 25)
theorem Wops.get {w : World} {v : Value} {l : List Wop} (h : Wops w v l) : ∃ a cap, v = .slice a l.length cap ∧ l.length ≤ 9223372036854775807 ∧ ∀ j (hj : j < l.length), ∃ g o, a = some ⟨g, o, none⟩ ∧ ∃ vb vl vp, w.rangeAt g (o + j * 5) [.int .i64 l[j].what, .int .i64 l[j].n, vb, vl, vp] ∧ Bytes w vb l[j].bs ∧ LL w vl l[j].ls ∧ Sl bv w vp l[j].ps ∧ -9223372036854775808 ≤ l[j].n ∧ l[j].n ≤ 9223372036854775807 := by
  obtain ⟨a, cap, h1, h2, h3, h4⟩ := h
  refine ⟨a, cap, h1, by unfold maxLen at h3; omega, fun j hj => ?_⟩
  obtain ⟨g, o, ha, vb, vl, vp, h⟩ := h4 j l[j] (List.getElem?_eq_getElem hj)
  refine ⟨g, o, ha, vb, vl, vp, ?_⟩
  rw [Nat.mul_comm 5 j] at h
  exact h
theorem fewW_no {l : List Wop} {j : Nat} (hj : j < l.length) (h : okW l[j] = false) : fewW l = false := by
  unfold fewW
  have : l.all okW = false := by rw [List.all_eq_false]; exact ⟨l[j], List.getElem_mem hj, by simp [h]⟩
  rw [this]; rfl
set_option maxRecDepth 20000 in
set_option maxHeartbeats 1000000 in
theorem fewW_any (v : Value) (l : List Wop) (w : World) (h : Wops w v l) :
    Calls Tryd.prog 31 #[v] w fun e w' => e = .returned (.bool (fewW l)) ∧ w = w' := by
  obtain ⟨a, cap, rfl, hlm, hget⟩ := h.get
  have hgh := Lib.hid hget
  clear h hget
  go_enter Tryd.func31, Tryd.ntmps31
  go_wp2
  go_loopw [3] (fun i wr => ∃ k : Nat, k ≤ l.length ∧ i = .int .i64 (k : Int) ∧ RowKit.Hid ((l.take k).all okW = true) ∧ wr = w) (fun i _ => l.length - (intOf i).toNat)
  case atStart => exact ⟨0, Nat.zero_le _, rfl, Lib.hid rfl, rfl⟩
  case round =>
    obtain ⟨k, hk, rfl, ho, rfl⟩ := hrel
    by_cases hlt : k < l.length
    · obtain ⟨g, o, rfl, vb, vl, vp, hr, hb, hl, hp, -⟩ := hgh.out k hlt
      have hfw := few09_any vl _ wr hl
      obtain ⟨ab, cb, rfl, -⟩ := hb
      obtain ⟨ap, cp, rfl, -⟩ := hp
      obtain ⟨al, cl, rfl, -⟩ := hl.get
      have c2 := hr 2 _ rfl
      have c3 := hr 3 _ rfl
      have c4 := hr 4 _ rfl
      have hki : (k : Int) < (l.length : Int) := by omega
      have hnx := Lib.hid (fun (h : okW l[k] = true) => (by rw [List.take_add_one, List.getElem?_eq_getElem hlt, List.all_append, ho.out]; simp [h] : (l.take (k + 1)).all okW = true))
      have hno := Lib.hid (@fewW_no l k hlt)
      have hoi := Lib.hid (show okW l[k] = (fewF l[k].ls && (!(decide (100 < l[k].bs.length) && decide (l[k].bs.length ≤ 4000)) && decide (l[k].ps.length ≤ 50))) from rfl)
      rw [hoi.out] at hnx hno
      clear hr hl hoi
      generalize l[k] = x at *
      cases hf : fewF x.ls
      · have hn := Lib.hid (hno.out (by rw [hf]; rfl))
        rw [hf] at hfw
        clear hno hnx
        go_wp2_with (go_at_call 13; refine hfw.mono ?_; rintro e w1 ⟨rfl, rfl⟩)
        go_ret
        exact ⟨by rw [hn.out]; rfl, rfl⟩
      · rw [hf] at hfw
        by_cases h5 : x.ps.length ≤ 50
        · have d5 : decide ((50 : Int) < (x.ps.length : Int)) = false := by rw [decide_eq_false_iff_not]; omega
          by_cases h2 : 100 < x.bs.length
          · have d2 : decide ((100 : Int) < (x.bs.length : Int)) = true := by rw [decide_eq_true_iff]; omega
            by_cases h3 : x.bs.length ≤ 4000
            · have d3 : decide ((x.bs.length : Int) ≤ 4000) = true := by rw [decide_eq_true_iff]; omega
              have hn := Lib.hid (hno.out (by rw [hf, decide_eq_true h2, decide_eq_true h3]; rfl))
              clear hno hnx
              go_wp2_with (go_at_call 13; refine hfw.mono ?_; rintro e w1 ⟨rfl, rfl⟩)
              go_ret
              exact ⟨by rw [hn.out]; rfl, rfl⟩
            · have d3 : decide ((x.bs.length : Int) ≤ 4000) = false := by rw [decide_eq_false_iff_not]; omega
              have hn := Lib.hid (hnx.out (by rw [hf, decide_eq_false h3, decide_eq_true h5]; simp))
              clear hno hnx
              go_wp2_with (go_at_call 13; refine hfw.mono ?_; rintro e w1 ⟨rfl, rfl⟩)
              go_roundw
              case rel => exact ⟨k + 1, by omega, by go_num, hn, trivial⟩
              case measure => simp [intOf]; omega
          · have d2 : decide ((100 : Int) < (x.bs.length : Int)) = false := by rw [decide_eq_false_iff_not]; omega
            have hn := Lib.hid (hnx.out (by rw [hf, decide_eq_false h2, decide_eq_true h5]; simp))
            clear hno hnx
            go_wp2_with (go_at_call 13; refine hfw.mono ?_; rintro e w1 ⟨rfl, rfl⟩)
            go_roundw
            case rel => exact ⟨k + 1, by omega, by go_num, hn, trivial⟩
            case measure => simp [intOf]; omega
        · have d5 : decide ((50 : Int) < (x.ps.length : Int)) = true := by rw [decide_eq_true_iff]; omega
          have hn := Lib.hid (hno.out (by rw [decide_eq_false h5]; simp))
          clear hno hnx
          by_cases h2 : 100 < x.bs.length
          · have d2 : decide ((100 : Int) < (x.bs.length : Int)) = true := by rw [decide_eq_true_iff]; omega
            by_cases h3 : x.bs.length ≤ 4000
            · have d3 : decide ((x.bs.length : Int) ≤ 4000) = true := by rw [decide_eq_true_iff]; omega
              go_wp2_with (go_at_call 13; refine hfw.mono ?_; rintro e w1 ⟨rfl, rfl⟩)
              go_ret
              exact ⟨by rw [hn.out]; rfl, rfl⟩
            · have d3 : decide ((x.bs.length : Int) ≤ 4000) = false := by rw [decide_eq_false_iff_not]; omega
              go_wp2_with (go_at_call 13; refine hfw.mono ?_; rintro e w1 ⟨rfl, rfl⟩)
              go_ret
              exact ⟨by rw [hn.out]; rfl, rfl⟩
          · have d2 : decide ((100 : Int) < (x.bs.length : Int)) = false := by rw [decide_eq_false_iff_not]; omega
            go_wp2_with (go_at_call 13; refine hfw.mono ?_; rintro e w1 ⟨rfl, rfl⟩)
            go_ret
            exact ⟨by rw [hn.out]; rfl, rfl⟩
    · obtain rfl : k = l.length := by omega
      have hf : fewW l = decide ((l.length : Int) ≤ 25) := by
        have := ho.out
        rw [List.take_length] at this
        unfold fewW
        rw [this, Bool.true_and, Bool.eq_iff_iff, decide_eq_true_iff, decide_eq_true_iff]; omega
      have hfh := Lib.hid hf
      clear ho hf
      go_wp2
      go_ret
      exact ⟨by rw [hfh.out]; rfl, rfl⟩
end Go.Proofs.YtmpjcnopakfdmaaDoor
