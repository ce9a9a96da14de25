/- DiskOrder, walked. -/
import Derived.Test.YtehgdoceaeammaaDiskH
namespace Go.Proofs.Ytehgdoceaeammaa
open Go.RowKit Dk

namespace Dk
/-- nothing is planned -/
structure Calm (d : D) : Prop where
  off : d.off = false
  plan : d.plan = []
  left : d.left = 0
theorem Calm.fl {d : D} (h : Calm d) : fl d = false := by unfold Dk.fl; rw [h.off, h.plan]; rfl
theorem Calm.after {d : D} (h : Calm d) : after d = d := by
  obtain ⟨K, st, plan, off, left⟩ := d
  obtain ⟨h1, h2, h3⟩ := h
  simp only at h1 h2 h3
  subst h1 h2 h3
  rfl
theorem mk_calm (n : Nat) : Calm (mk n) := ⟨rfl, rfl, rfl⟩
theorem wr_err (i : Int) (b : List UInt8) {d : D} (h : Calm d) (he : wrE i b d ≠ 0) : wrB i b d = d := by
  unfold wrE at he
  unfold wrB
  rw [h.fl] at he ⊢
  split
  · rfl
  · rename_i h1
    rw [if_neg h1] at he
    split
    · rfl
    · rename_i h2
      rw [if_neg h2] at he
      exact absurd rfl he
theorem wr_good (i : Int) (b : List UInt8) {d : D} (h : Calm d) (he : wrE i b d = 0) : 0 ≤ i ∧ i.toNat < d.n ∧ b.length ≤ 32 ∧ wrB i b d = { d with st := d.st ++ [(i.toNat, pad b)] } := by
  unfold wrE at he
  unfold wrB
  rw [h.fl] at he ⊢
  split at he
  · cases he
  · rename_i h1
    rw [if_neg h1]
    split at he
    · cases he
    · rename_i h2
      rw [if_neg h2, if_neg (by decide), h.after]
      simp [has] at h1
      exact ⟨by omega, by omega, by omega, rfl⟩
theorem wr_calm (i : Int) (b : List UInt8) {d : D} (h : Calm d) : Calm (wrB i b d) := by
  by_cases he : wrE i b d = 0
  · rw [(wr_good i b h he).2.2.2]; exact ⟨h.off, h.plan, h.left⟩
  · rw [wr_err i b h he]; exact h
theorem wr_len (i : Int) (b : List UInt8) {d : D} (h : Calm d) : (wrB i b d).st.length = d.st.length + (if wrE i b d = 0 then 1 else 0) := by
  by_cases he : wrE i b d = 0
  · rw [(wr_good i b h he).2.2.2, if_pos he]; simp
  · rw [wr_err i b h he, if_neg he]; rfl
theorem wr_n (i : Int) (b : List UInt8) {d : D} (h : Calm d) : (wrB i b d).n = d.n := by
  by_cases he : wrE i b d = 0
  · rw [(wr_good i b h he).2.2.2]; rfl
  · rw [wr_err i b h he]
theorem blk_over_same {K m : List UInt8} {i n : Nat} (hK : K.length = 32 * n) (hi : i < n) (hm : m.length = 32) : blk (over K (32 * i) m) i = m := by
  apply List.ext_getElem?
  intro j
  by_cases hj : j < 32
  · rw [blk_get _ _ _ hj, over_get (by omega), if_pos (by omega), Nat.add_sub_cancel_left]
  · rw [List.getElem?_eq_none (by simp [blk]; omega), List.getElem?_eq_none (by omega)]
theorem blk_over_other {K m : List UInt8} {i k n : Nat} (hK : K.length = 32 * n) (hk : k < n) (hm : m.length = 32) (hne : i ≠ k) : blk (over K (32 * k) m) i = blk K i := by
  apply List.ext_getElem?
  intro j
  by_cases hj : j < 32
  · rw [blk_get _ _ _ hj, blk_get _ _ _ hj, over_get (by omega), if_neg (by omega)]
  · rw [List.getElem?_eq_none (by simp [blk]; omega), List.getElem?_eq_none (by simp [blk]; omega)]
theorem order_plain {m : Nat} (i k : Int) (a b c : List UInt8) (e1 : wrE i a (mk m) = 0) (e2 : wrE k c (wrB i a (mk m)) = 0) (e3 : wrE i b (wrB k c (wrB i a (mk m))) = 0) :
    syncE (wrB i b (wrB k c (wrB i a (mk m)))) = 0 ∧ (sync (wrB i b (wrB k c (wrB i a (mk m))))).st = [] ∧
      rdB i (sync (wrB i b (wrB k c (wrB i a (mk m))))) = pad b ∧ (i ≠ k → rdB k (sync (wrB i b (wrB k c (wrB i a (mk m))))) = pad c) := by
  have c0 := mk_calm m
  obtain ⟨h1, h2, h3, h4⟩ := wr_good i a c0 e1
  have c1 := wr_calm i a c0
  obtain ⟨h5, h6, h7, h8⟩ := wr_good k c c1 e2
  have c2 := wr_calm k c c1
  obtain ⟨-, h9, h10, h11⟩ := wr_good i b c2 e3
  have c3 := wr_calm i b c2
  have n1 := wr_n i a c0
  rw [mk_n] at h2 n1
  rw [n1] at h6
  have hst : (wrB i b (wrB k c (wrB i a (mk m)))).st = [(i.toNat, pad a), (k.toNat, pad c), (i.toNat, pad b)] := by
    rw [h11, h8, h4]; rfl
  have hkp : (wrB i b (wrB k c (wrB i a (mk m)))).kept = List.replicate (32 * m) 0 := by
    rw [h11, h8, h4]; rfl
  have hK : (List.replicate (32 * m) (0 : UInt8)).length = 32 * m := by simp
  have hs : sync (wrB i b (wrB k c (wrB i a (mk m)))) = { wrB i b (wrB k c (wrB i a (mk m))) with kept := over (over (over (List.replicate (32 * m) 0) (32 * i.toNat) (pad a)) (32 * k.toNat) (pad c)) (32 * i.toNat) (pad b), st := [] } := by
    unfold sync
    rw [c3.fl, if_neg (by decide), c3.after, hst, hkp]
    have t : ∀ x : List UInt8, x.length ≤ 32 → (pad x).take 32 = pad x := fun x hx => List.take_of_length_le (by rw [pad_length hx]; exact Nat.le_refl _)
    have e : lay (List.replicate (32 * m) 0) [(i.toNat, pad a), (k.toNat, pad c), (i.toNat, pad b)] (fun _ => 32) 3 = over (over (over (List.replicate (32 * m) 0) (32 * i.toNat) ((pad a).take 32)) (32 * k.toNat) ((pad c).take 32)) (32 * i.toNat) ((pad b).take 32) := rfl
    rw [t a h3, t c h7, t b h10] at e
    have hl3 : ([(i.toNat, pad a), (k.toNat, pad c), (i.toNat, pad b)] : List (Nat × List UInt8)).length = 3 := rfl
    rw [hl3, e]
  have l1 : (over (List.replicate (32 * m) (0 : UInt8)) (32 * i.toNat) (pad a)).length = 32 * m := by rw [over_length (by rw [pad_length h3, hK]; omega), hK]
  have l2 : (over (over (List.replicate (32 * m) (0 : UInt8)) (32 * i.toNat) (pad a)) (32 * k.toNat) (pad c)).length = 32 * m := by rw [over_length (by rw [pad_length h7, l1]; omega), l1]
  have l3 : (over (over (over (List.replicate (32 * m) (0 : UInt8)) (32 * i.toNat) (pad a)) (32 * k.toNat) (pad c)) (32 * i.toNat) (pad b)).length = 32 * m := by rw [over_length (by rw [pad_length h10, l2]; omega), l2]
  have hhas : ∀ z : Int, 0 ≤ z → z.toNat < m → has (sync (wrB i b (wrB k c (wrB i a (mk m))))) z = true := fun z z0 z1 => by
    unfold has
    have : (sync (wrB i b (wrB k c (wrB i a (mk m))))).n = m := by rw [hs]; show (over _ _ _).length / 32 = m; rw [l3]; omega
    rw [this]; simp; omega
  refine ⟨by unfold syncE; rw [c3.fl]; rfl, by rw [hs], ?_, fun hne => ?_⟩
  · unfold rdB
    rw [hhas i h1 h2, hs]
    show blk _ _ = _
    exact blk_over_same l2 h2 (pad_length h10)
  · have hik : k.toNat ≠ i.toNat := by omega
    unfold rdB
    rw [hhas k h5 h6, hs]
    show blk _ _ = _
    rw [blk_over_other l2 h2 (pad_length h10) hik, blk_over_same l1 h6 (pad_length h7)]
end Dk
end Go.Proofs.Ytehgdoceaeammaa
