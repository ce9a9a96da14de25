/- Plain facts of DiskCrashes. -/
import Derived.Test.YtehgdoceaeammaaDiskR
namespace Go.Proofs.Ytehgdoceaeammaa
open Go.RowKit Dk

theorem lay_same {K : List UInt8} {st : List (Nat × List UInt8)} {c c' : Nat → Nat} : ∀ n, (∀ i, i < n → (st.getD i (0, [])).2.take (c i) = (st.getD i (0, [])).2.take (c' i)) → lay K st c n = lay K st c' n
  | 0, _ => rfl
  | n + 1, h => by rw [lay, lay, lay_same n (fun i hi => h i (by omega)), h n (by omega)]
theorem lay_none {K : List UInt8} {st : List (Nat × List UInt8)} {c : Nat → Nat} : ∀ n, (∀ i, i < n → c i = 0) → lay K st c n = K
  | 0, _ => rfl
  | n + 1, h => by rw [lay, lay_none n (fun i hi => h i (by omega)), h n (by omega), List.take_zero, over_nil]
theorem crash_none (d : D) : (crash [] d).kept = d.kept := lay_none _ fun i _ => by unfold cutAt; rw [if_neg (by simp)]
theorem crash_all (d : D) (l : List UInt8) (hl : l = List.replicate d.st.length 32) : (crash l d).kept = lay d.kept d.st (fun _ => 32) d.st.length := by
  show lay _ _ _ _ = _
  refine lay_same _ fun i hi => ?_
  have : cutAt l i = 32 := by
    unfold cutAt
    subst hl
    rw [if_pos (by simpa using hi), List.getD_eq_getElem?_getD, List.getElem?_replicate, if_pos hi]; rfl
  rw [this]
theorem crash_len {d : D} (h : d.Ok) (cuts : List UInt8) : (crash cuts d).kept.length = d.kept.length := by
  rw [h.len]
  exact lay_length h.len h.at_ (cutAt cuts) (cutAt_le cuts) _ (Nat.le_refl _)
theorem crash_one {d : D} (h : d.Ok) (cuts : List UInt8) (h1 : d.st.length ≤ 1) (j : Nat) (hj : j < d.kept.length) :
    (crash cuts d).kept.getD j 0 = d.kept.getD j 0 ∨ (crash cuts d).kept.getD j 0 = (rdB ((j / 32 : Nat) : Int) d).getD (j % 32) 0 := by
  obtain ⟨K, st, pl, off, lf⟩ := d
  match st, h1 with
  | [], _ => left; rfl
  | [x], _ =>
    obtain ⟨hx1, hx2⟩ := h.at_ x (by simp)
    have hl := h.len
    simp only at hl hx1 hx2 hj ⊢
    have hc := cutAt_le cuts 0
    have hlt : (x.2.take (cutAt cuts 0)).length = cutAt cuts 0 := by rw [List.length_take, hx2]; omega
    have hg := over_get (l := K) (m := x.2.take (cutAt cuts 0)) (o := 32 * x.1) (by rw [hlt, hl]; omega) j
    rw [hlt] at hg
    have hk : (crash cuts ⟨K, [x], pl, off, lf⟩).kept = over K (32 * x.1) (x.2.take (cutAt cuts 0)) := rfl
    rw [hk, List.getD_eq_getElem?_getD, hg]
    by_cases hin : 32 * x.1 ≤ j ∧ j < 32 * x.1 + cutAt cuts 0
    · right
      rw [if_pos hin]
      have hdiv : j / 32 = x.1 := by omega
      have hh : has ⟨K, [x], pl, off, lf⟩ ((j / 32 : Nat) : Int) = true := by
        unfold has
        rw [hdiv]; simp; exact hx1
      have hr : rdB ((j / 32 : Nat) : Int) ⟨K, [x], pl, off, lf⟩ = x.2 := by
        unfold rdB
        rw [hh, if_pos rfl, Int.toNat_natCast, hdiv]
        simp [rd]
      rw [hr, List.getElem?_take, if_pos (by omega), List.getD_eq_getElem?_getD]
      congr 2; omega
    · left
      rw [if_neg hin, List.getD_eq_getElem?_getD]
theorem sync_off {d : D} (h : d.off = true) : syncE (faults [] d) = 21 ∧ (sync (faults [] d)).st = d.st ∧ (sync (faults [] d)).kept = d.kept := by
  have hf : fl (faults [] d) = true := by unfold fl faults; rw [h]; rfl
  unfold syncE sync
  rw [if_pos hf, if_pos hf, after_st, after_kept]
  exact ⟨rfl, rfl, rfl⟩
theorem sync_on {d : D} (h : d.off = false) : syncE (faults [] d) = 0 ∧ (sync (faults [] d)).kept = lay d.kept d.st (fun _ => 32) d.st.length := by
  have hf : fl (faults [] d) = false := by unfold fl faults; simp [h]
  unfold syncE sync
  rw [if_neg (by rw [hf]; decide), if_neg (by rw [hf]; decide)]
  exact ⟨rfl, rfl⟩
theorem rdB_len {d : D} (h : d.Ok) {i : Nat} (hi : i < d.n) : (rdB (i : Int) d).length = 32 := by
  have hh : has d (i : Int) = true := by unfold has; simp; exact hi
  unfold rdB
  rw [hh, if_pos rfl, Int.toNat_natCast]
  exact rd_length h.len h.at_ hi _ (Nat.le_refl _)
end Go.Proofs.Ytehgdoceaeammaa
