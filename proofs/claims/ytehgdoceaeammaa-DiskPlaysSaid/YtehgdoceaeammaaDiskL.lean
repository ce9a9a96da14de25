/- What is done to a disk: its size, one of them, all of them. -/
import Derived.Test.YtehgdoceaeammaaDiskK
namespace Go.Proofs.Ytehgdoceaeammaa
open Go.RowKit Dk

def okO (x : Dop) : Bool := decide (x.bs.length ≤ 100) && decide (x.ps.length ≤ 100)
def fewO (l : List Dop) : Bool := l.all okO && decide (l.length ≤ 40)
theorem Ops.get {w : World} {v : Value} {l : List Dop} (h : Ops w v l) : ∃ a cap, v = .slice a l.length cap ∧ ∀ j (hj : j < l.length), ∃ g o, a = some ⟨g, o, none⟩ ∧ ∃ vb vp, w.rangeAt g (o + j * 4) [.int .i64 l[j].what, .int .i64 l[j].place, vb, vp] ∧ Bytes w vb l[j].bs ∧ Sl bv w vp l[j].ps ∧ -9223372036854775808 ≤ l[j].place ∧ l[j].place ≤ 9223372036854775807 := by
  obtain ⟨a, cap, h1, -, -, h4⟩ := h
  refine ⟨a, cap, h1, fun j hj => ?_⟩
  obtain ⟨g, o, ha, vb, vp, h⟩ := h4 j l[j] (List.getElem?_eq_getElem hj)
  refine ⟨g, o, ha, vb, vp, ?_⟩
  rw [Nat.mul_comm 4 j] at h
  exact h
theorem all_take {l : List Dop} {j : Nat} (hj : j < l.length) : (l.take (j + 1)).all okO = ((l.take j).all okO && okO l[j]) := by
  rw [List.take_add_one, List.getElem?_eq_getElem hj, List.all_append]; simp
theorem few_no {l : List Dop} {j : Nat} (hj : j < l.length) (h : okO l[j] = false) : fewO l = false := by
  unfold fewO
  have : l.all okO = false := by rw [List.all_eq_false]; exact ⟨l[j], List.getElem_mem hj, by simp [h]⟩
  rw [this]; rfl
set_option maxRecDepth 20000 in
set_option maxHeartbeats 1000000 in
theorem few_any (v : Value) (l : List Dop) (w : World) (h : Ops w v l) :
    Calls Try.prog 15 #[v] w fun e w' => e = .returned (.bool (fewO l)) ∧ w = w' := by
  obtain ⟨a, cap, rfl, hget⟩ := h.get
  have hlm : l.length ≤ maxLen := by
    obtain ⟨_, _, e, h2, h3, -⟩ := h
    omega
  unfold maxLen at hlm
  clear h
  have hgh := Lib.hid hget
  clear hget
  go_enter Try.func15, Try.ntmps15
  go_wp2
  go_loopw [3] (fun i wr => ∃ k : Nat, k ≤ l.length ∧ i = .int .i64 (k : Int) ∧ (l.take k).all okO = true ∧ wr = w) (fun i _ => l.length - (intOf i).toNat)
  case atStart => exact ⟨0, Nat.zero_le _, rfl, rfl, rfl⟩
  case round =>
    obtain ⟨k, hk, rfl, ho, rfl⟩ := hrel
    by_cases hlt : k < l.length
    · obtain ⟨g, o, rfl, vb, vp, hr, hb, hp, -⟩ := hgh.out k hlt
      obtain ⟨ab, cb, rfl, -⟩ := hb
      obtain ⟨ap, cp, rfl, -⟩ := hp
      have c2 := hr 2 _ rfl
      have c3 := hr 3 _ rfl
      have hki : (k : Int) < (l.length : Int) := by omega
      have hnx := all_take hlt
      have hno := @few_no l k hlt
      have hoi : okO l[k] = (decide (l[k].bs.length ≤ 100) && decide (l[k].ps.length ≤ 100)) := rfl
      rw [ho, hoi] at hnx
      rw [hoi] at hno
      clear hr hoi
      have hnxh := Lib.hid hnx
      have hnoh := Lib.hid hno
      clear hnx hno
      generalize l[k] = x at *
      by_cases h2 : x.bs.length ≤ 100
      · have d2 : decide ((100 : Int) < (x.bs.length : Int)) = false := by rw [decide_eq_false_iff_not]; omega
        by_cases h3 : x.ps.length ≤ 100
        · have d3 : decide ((100 : Int) < (x.ps.length : Int)) = false := by rw [decide_eq_false_iff_not]; omega
          go_wp2
          go_roundw
          case rel => exact ⟨k + 1, by omega, by go_num, by rw [hnxh.out]; simp [h2, h3], trivial⟩
          case measure => simp [intOf]; omega
        · have d3 : decide ((100 : Int) < (x.ps.length : Int)) = true := by rw [decide_eq_true_iff]; omega
          have hf := hnoh.out (by simp [h3])
          go_wp2
          go_ret
          exact ⟨by rw [hf]; rfl, rfl⟩
      · have d2 : decide ((100 : Int) < (x.bs.length : Int)) = true := by rw [decide_eq_true_iff]; omega
        have hf := hnoh.out (by simp [h2])
        go_wp2
        go_ret
        exact ⟨by rw [hf]; rfl, rfl⟩
    · obtain rfl : k = l.length := by omega
      have hf : fewO l = decide ((l.length : Int) ≤ 40) := by
        rw [List.take_length] at ho
        unfold fewO
        rw [ho, Bool.true_and, Bool.eq_iff_iff, decide_eq_true_iff, decide_eq_true_iff]; omega
      have hfh := Lib.hid hf
      clear ho hf
      go_wp2
      go_ret
      exact ⟨by rw [hfh.out]; rfl, rfl⟩
end Go.Proofs.Ytehgdoceaeammaa
