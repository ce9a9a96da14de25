/- A disk behind things that were done. -/
import Derived.Test.YtehgdoceaeammaaDiskP
namespace Go.Proofs.Ytehgdoceaeammaa
open Go.RowKit Dk

theorem after_len (d : D) : (after d).st = d.st := by unfold after; split <;> rfl
theorem doB_len (x : Dop) (d : D) : (doB x d).st.length ≤ d.st.length + 1 := by
  unfold doB
  split
  · unfold wrB
    split
    · omega
    · split
      · omega
      · split
        · rw [after_len]; omega
        · simp only [after_len, List.length_append, List.length_cons, List.length_nil]; omega
  split
  · unfold sync
    split
    · rw [after_len]; omega
    · simp
  split
  · unfold drop; split <;> simp
  split
  · unfold crash; simp
  split
  · unfold faults; simp
  split
  · unfold stop; simp
  · omega
def beh (n : Int) (l : List Dop) : D := l.foldl (fun d x => doB x d) (mk (clamp n))
theorem beh_len (n : Int) (l : List Dop) : (beh n l).st.length ≤ l.length := by
  unfold beh
  suffices h : ∀ (d : D), (l.foldl (fun d x => doB x d) d).st.length ≤ d.st.length + l.length by
    have := h (mk (clamp n)); unfold mk at this ⊢; simpa using this
  induction l with
  | nil => intro d; simp
  | cons x l ih =>
    intro d
    have h1 := ih (doB x d)
    have h2 := doB_len x d
    rw [List.foldl_cons, List.length_cons]; omega
theorem beh_take {n : Int} {l : List Dop} {k : Nat} (hk : k < l.length) : beh n (l.take (k + 1)) = doB l[k] (beh n (l.take k)) := by
  unfold beh
  rw [List.take_add_one, List.getElem?_eq_getElem hk, List.foldl_append]; rfl
theorem few_facts {l : List Dop} (h : fewO l = true) : l.length ≤ 40 ∧ ∀ j (hj : j < l.length), l[j].bs.length ≤ 100 ∧ l[j].ps.length ≤ 100 := by
  unfold fewO at h
  rw [Bool.and_eq_true, decide_eq_true_iff, List.all_eq_true] at h
  refine ⟨h.2, fun j hj => ?_⟩
  have := h.1 _ (List.getElem_mem hj)
  unfold okO at this
  rwa [Bool.and_eq_true, decide_eq_true_iff, decide_eq_true_iff] at this
theorem info_op : (Try.prog.info? 49).map (·.size) = some 4 := by kernel_rfl
attribute [local irreducible] doE doB mk beh
set_option maxRecDepth 20000 in
set_option maxHeartbeats 2000000 in
theorem behind_any (n : Int) (v : Value) (l : List Dop) {w0 w : World} (e0 : Ext w0 w) (h : Ops w0 v l) (hf : fewO l = true) :
    Calls Try.prog 16 #[.int .i64 n, v] w (Ret fun u w' => ∃ p, u = .pointer (some ⟨p, 0, none⟩) ∧ DiskN w0 w' p (beh n l)) := by
  obtain ⟨a, cap, rfl, hget⟩ := h.get
  obtain ⟨hl40, hsm⟩ := few_facts hf
  have hgh := Lib.hid hget
  have hsh := Lib.hid hsm
  clear hget hsm h hf
  go_enter Try.func16, Try.ntmps16
  go_wp2_with (go_at_call 10; refine (new_n n e0).mono ?_; rintro e w1 ⟨v1, rfl, p, rfl, h1⟩)
  have hst : RowKit.Hid (beh n (l.take 0) = mk (clamp n)) := Lib.hid (by unfold beh; rfl)
  go_loopw [6] (fun i wr => ∃ k : Nat, k ≤ l.length ∧ i = .int .i64 (k : Int) ∧ DiskN w0 wr p (beh n (l.take k))) (fun i _ => l.length - (intOf i).toNat)
  case atStart => exact ⟨0, Nat.zero_le _, rfl, by rw [hst.out]; exact h1⟩
  case round =>
    obtain ⟨k, hk, rfl, hd⟩ := hrel
    by_cases hlt : k < l.length
    · obtain ⟨g, o, rfl, vb, vp, hr, hb, hp, r1, r2⟩ := hgh.out k hlt
      have hki : (k : Int) < (l.length : Int) := by omega
      have hq := hsh.out k hlt
      have hnx := Lib.hid (beh_take (n := n) hlt)
      have hrw : wr.rangeAt g (o + k * 4) [.int .i64 l[k].what, .int .i64 l[k].place, vb, vp] := fun j u hu => hd.1.cell (hr j u hu)
      have hl1 := beh_len n (l.take k)
      rw [List.length_take] at hl1
      have hD := do_any hd (by omega) l[k] vb vp hb (hp.ext hd.1) (by omega) r1 r2
      clear hr hb hp hq
      generalize l[k] = x at *
      generalize beh n (l.take k) = dk at *
      go_wp2_with (first
        | (refine wpList_load_mid rfl 49 _ rfl g (o + k * 4) rfl [.int .i64 x.what, .int .i64 x.place, vb, vp] _ hrw Try.underlying49 rfl info_op ?_)
        | (go_at_call 27; refine hD.mono ?_; rintro e w2 ⟨rfl, h2⟩))
      go_roundw
      case rel => exact ⟨k + 1, by omega, by go_num, by rw [hnx.out]; exact h2⟩
      case measure => simp [intOf]; omega
    · obtain rfl : k = l.length := by omega
      rw [List.take_length] at hd
      go_wp2
      go_ret
      exact Ret.mk ⟨p, rfl, hd⟩
end Go.Proofs.Ytehgdoceaeammaa
