/- Plain facts on tickets' names, fourth part: no name lies within another one; names behind what cannot begin one. -/
import Derived.Test.YtkpcdbalhpmpmaaDoorTicketMath3
namespace Go.Proofs.YtkpcdbalhpmpmaaDoor
namespace Tk

theorem hexc_nodash : ∀ d, d < 16 → hexc d ≠ 45 := by decide
theorem digs_nodash : ∀ k n, ∀ c ∈ digs k n, c ≠ 45
  | 0, n, c, h => by simp [digs] at h
  | k + 1, n, c, h => by
    rw [digs, List.mem_append] at h
    rcases h with h | h
    · exact digs_nodash k _ c h
    · have : c = hexc (n % 16) := by simpa using h
      rw [this]; exact hexc_nodash _ (Nat.mod_lt _ (by decide))
theorem pre_tail' : ((List.range 7).all fun k => (List.range 7).all fun m => (List.range 7).all fun i => !(decide (1 ≤ k) && decide (1 ≤ m) && ((pre m).drop i == pre k)) || (k == m && i == 0)) = true := by decide +kernel
theorem pre_tail (k : Nat) (hk : k < 7) (m : Nat) (hm : m < 7) (i : Nat) (hi : i < 7) (h1 : 1 ≤ k) (h2 : 1 ≤ m) (h : (pre m).drop i = pre k) : k = m ∧ i = 0 := by
  have h3 := List.all_eq_true.1 (List.all_eq_true.1 (List.all_eq_true.1 pre_tail' k (List.mem_range.2 hk)) m (List.mem_range.2 hm)) i (List.mem_range.2 hi)
  simpa [h1, h2, h] using h3
theorem name_dash (k n : Nat) (j : Nat) : (name k n)[j]? = some 45 → isKind k → j = (pre k).length := by
  intro h hk
  unfold name at h
  rw [List.append_assoc] at h
  by_cases h1 : j < (pre k).length
  · rw [List.getElem?_append_left h1] at h
    exact absurd rfl (pre_nodash hk 45 (List.mem_of_getElem? h))
  · rw [List.getElem?_append_right (by omega)] at h
    by_cases h2 : j = (pre k).length
    · exact h2
    · obtain ⟨i, hi⟩ : ∃ i, j - (pre k).length = i + 1 := ⟨j - (pre k).length - 1, by omega⟩
      rw [hi, List.singleton_append, List.getElem?_cons_succ] at h
      exact absurd rfl (digs_nodash 16 n 45 (List.mem_of_getElem? h))
theorem name_at (k n : Nat) : (name k n)[(pre k).length]? = some 45 := by
  unfold name
  rw [List.append_assoc, List.getElem?_append_right (Nat.le_refl _), Nat.sub_self]; rfl
/-- where a name lies within a name they are one -/
theorem name_within {k n m l i : Nat} (hk : isKind k) (hm : isKind m) (hi : i + (name k n).length ≤ (name m l).length) (h : sub (name m l) i (i + (name k n).length) = name k n) : k = m ∧ name k n = name m l := by
  have hkl := name_length k n
  have hml := name_length m l
  have hd : (name m l)[i + (pre k).length]? = some 45 := by
    have h1 := name_at k n
    rw [← h, sub_drop, List.getElem?_take, if_pos (by omega), List.getElem?_drop] at h1
    exact h1
  have hp := name_dash m l _ hd hm
  have h6 := pre_length hm
  have ht : (pre m).drop i = pre k := by
    have h1 := congrArg (List.take (pre k).length) h
    rw [sub_drop, List.take_take, show min (pre k).length (name k n).length = (pre k).length by omega] at h1
    have e1 : (name k n).take (pre k).length = pre k := by
      unfold name; rw [List.append_assoc, List.take_left']; rfl
    have e2 : ((name m l).drop i).take (pre k).length = (pre m).drop i := by
      unfold name
      rw [List.append_assoc, List.drop_append_of_le_length (by omega), List.take_left']
      rw [List.length_drop]; omega
    rw [e1, e2] at h1
    exact h1
  have hk' := hk
  have hm' := hm
  unfold isKind at hk' hm'
  obtain ⟨e, rfl⟩ := pre_tail k (by omega) m (by omega) i (by omega) hk'.1 hm'.1 ht
  refine ⟨e, ?_⟩
  subst e
  rw [← h, Nat.zero_add]
  unfold sub
  rw [List.drop_zero, hkl, ← hml, List.take_length]
theorem name_inj {k n l : Nat} (hk : isKind k) (hn : n < 2 ^ 64) (hl : l < 2 ^ 64) (h : name k n = name k l) : n = l := by
  have h1 := parse_name hk hn
  rw [h, parse_name hk hl] at h1
  simpa using h1.symm

/-- a name ahead of anything is found -/
theorem find_name {k n : Nat} (hk : isKind k) (hn : n < 2 ^ 64) (t : List UInt8) : find (name k n ++ t) = name k n :: find t := by
  have hh : hits (name k n ++ t) (name k n).length = true := by
    rw [hits_iff]
    exact ⟨by simp, k, n, by rw [List.take_left']; exact ⟨hk, hn, rfl⟩; rfl⟩
  have hz := sz_hit hh
  have h0 : sz (name k n ++ t) ≠ 0 := by rw [hz, name_length]; omega
  rw [find_take h0, hz, List.take_left' rfl, List.drop_left' rfl]
theorem pre_first : ∀ k, k < 7 → 1 ≤ k → ∃ c, (pre k)[0]? = some c ∧ 65 ≤ c.toNat ∧ c.toNat ≤ 90 := by
  intro k hk h1
  have : k = 1 ∨ k = 2 ∨ k = 3 ∨ k = 4 ∨ k = 5 ∨ k = 6 := by omega
  rcases this with rfl | rfl | rfl | rfl | rfl | rfl <;> exact ⟨_, rfl, by decide, by decide⟩
/-- what no name begins with is passed by -/
theorem find_clean {c : UInt8} (hc : c.toNat < 65 ∨ 90 < c.toNat) (t : List UInt8) : find (c :: t) = find t := by
  have hz : sz (c :: t) = 0 := sz_no fun n => by
    cases h : hits (c :: t) n with
    | false => rfl
    | true =>
      exfalso
      obtain ⟨hn, k, m, hk, hm, he⟩ := (hits_iff _ _).1 h
      unfold isKind at hk
      obtain ⟨b, hb, h1, h2⟩ := pre_first k (by omega) hk.1
      have hl := congrArg List.length he
      rw [name_length, List.length_take] at hl
      have h3 : ((c :: t).take n)[0]? = some c := by
        rw [List.getElem?_take, if_pos (by omega)]; rfl
      have h4 : (name k m)[0]? = some b := by
        unfold name
        have : 0 < (pre k).length := (List.getElem?_eq_some_iff.1 hb).1
        rw [List.append_assoc, List.getElem?_append_left this]; exact hb
      rw [he, h4] at h3
      cases h3
      omega
  rw [find_skip (by simp) hz]; rfl
/-- so far: what is found of a text and more of it -/
def Finds (s : List UInt8) (want : List (List UInt8)) : Prop := ∀ t, find (s ++ t) = want ++ find t
theorem Finds.nil : Finds [] [] := fun _ => rfl
theorem Finds.clean {s : List UInt8} {want : List (List UInt8)} (h : Finds s want) (c : UInt8) (hc : c.toNat < 65 ∨ 90 < c.toNat) : Finds (s ++ [c]) want := fun t => by
  rw [List.append_assoc, h, List.singleton_append, find_clean hc]
theorem Finds.name {s : List UInt8} {want : List (List UInt8)} (h : Finds s want) {k n : Nat} (hk : isKind k) (hn : n < 2 ^ 64) : Finds (s ++ name k n) (want ++ [name k n]) := fun t => by
  rw [List.append_assoc, h, find_name hk hn, List.append_assoc]; rfl
theorem Finds.all {s : List UInt8} {want : List (List UInt8)} (h : Finds s want) : find s = want := by
  have := h []
  rwa [List.append_nil, find_nil, List.append_nil] at this
theorem nameI_ok {k : Int} (h : okK k = true) (n : Nat) : nameI k n = name k.toNat n := by unfold nameI; rw [h]; rfl
end Tk
end Go.Proofs.YtkpcdbalhpmpmaaDoor
