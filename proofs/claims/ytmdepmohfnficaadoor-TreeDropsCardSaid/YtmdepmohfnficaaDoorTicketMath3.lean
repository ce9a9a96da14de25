/- Plain facts on tickets' names, third part: which names lie within a text. -/
import Derived.Test.YtmdepmohfnficaaDoorTicketMath2
namespace Go.Proofs.YtmdepmohfnficaaDoor
namespace Tk

/-- do the first n bytes tell a name? -/
def hits (t : List UInt8) (n : Nat) : Bool := decide (n ≤ t.length) && pok (t.take n)
theorem pok_iff (s : List UInt8) : pok s = true ↔ ∃ k n, IsName s k n := by
  unfold pok
  constructor
  · intro h
    obtain ⟨⟨k, n⟩, h⟩ := Option.isSome_iff_exists.1 h
    exact ⟨k, n, (parse_iff _ _ _).1 h⟩
  · rintro ⟨k, n, h⟩
    rw [(parse_iff _ _ _).2 h]; rfl
theorem hits_iff (t : List UInt8) (n : Nat) : hits t n = true ↔ n ≤ t.length ∧ ∃ k m, IsName (t.take n) k m := by
  unfold hits
  rw [Bool.and_eq_true, decide_eq_true_iff, pok_iff]
theorem hits_cut {t : List UInt8} {n : Nat} (h : hits t n = true) : ∃ k m, isKind k ∧ m < 2 ^ 64 ∧ n = (pre k).length + 17 ∧ t.take n = name k m ∧ cutAt t = (pre k, some (digs 16 m ++ t.drop n)) := by
  obtain ⟨hn, k, m, hk, hm, he⟩ := (hits_iff t n).1 h
  refine ⟨k, m, hk, hm, ?_, he, ?_⟩
  · have := congrArg List.length he
    rw [name_length, List.length_take] at this
    omega
  · have e : t = pre k ++ 45 :: (digs 16 m ++ t.drop n) := by
      conv => lhs; rw [← List.take_append_drop n t, he]
      simp [name]
    conv => lhs; rw [e]
    exact cutAt_dash _ _ (pre_nodash hk)
theorem hits_unique {t : List UInt8} {n m : Nat} (h : hits t n = true) (h' : hits t m = true) : n = m := by
  obtain ⟨k, a, hk, _, e1, _, c1⟩ := hits_cut h
  obtain ⟨k', a', hk', _, e2, _, c2⟩ := hits_cut h'
  rw [c1] at c2
  have : pre k = pre k' := by simpa using (Prod.mk.inj c2).1
  rw [e1, e2, this]
theorem hits_sizes {t : List UInt8} {n : Nat} (h : hits t n = true) : n = 19 ∨ n = 20 ∨ n = 23 := by
  obtain ⟨k, a, hk, _, e1, _, c1⟩ := hits_cut h
  rcases pre_length hk with h | h | h <;> omega
/-- how long the name at the beginning is, 0 where there is none -/
def sz (t : List UInt8) : Nat := if hits t 19 then 19 else if hits t 20 then 20 else if hits t 23 then 23 else 0
theorem sz_hit {t : List UInt8} {n : Nat} (h : hits t n = true) : sz t = n := by
  have h2 : ∀ m, hits t m = true → n = m := fun m h' => hits_unique h h'
  rcases hits_sizes h with rfl | rfl | rfl <;> unfold sz
  · rw [if_pos h]
  · by_cases h19 : hits t 19 = true
    · exact absurd (h2 _ h19) (by decide)
    · rw [if_neg h19, if_pos h]
  · by_cases h19 : hits t 19 = true
    · exact absurd (h2 _ h19) (by decide)
    · by_cases h20 : hits t 20 = true
      · exact absurd (h2 _ h20) (by decide)
      · rw [if_neg h19, if_neg h20, if_pos h]
theorem sz_no {t : List UInt8} (h : ∀ n, hits t n = false) : sz t = 0 := by unfold sz; simp [h]
theorem sz_pos {t : List UInt8} (h : sz t ≠ 0) : hits t (sz t) = true := by
  unfold sz at h ⊢
  split
  · assumption
  · split
    · assumption
    · split
      · assumption
      · rename_i a b c; rw [if_neg a, if_neg b, if_neg c] at h; exact absurd rfl h
theorem sz_le (t : List UInt8) : sz t ≤ t.length := by
  by_cases h : sz t = 0
  · omega
  · exact ((hits_iff _ _).1 (sz_pos h)).1
theorem sz_23 (t : List UInt8) : sz t ≤ 23 := by
  by_cases h : sz t = 0
  · omega
  · rcases hits_sizes (sz_pos h) with e | e | e <;> omega
/-- the name that was found when so many sizes were tried -/
def acc (t : List UInt8) (L : List Nat) : Nat := if L.any (hits t) then sz t else 0
theorem acc_nil (t : List UInt8) : acc t [] = 0 := rfl
theorem acc_hit (t : List UInt8) (L : List Nat) (m : Nat) (h : hits t m = true) : acc t (L ++ [m]) = m := by
  unfold acc; rw [List.any_append]; simp [h, sz_hit h]
theorem acc_miss (t : List UInt8) (L : List Nat) (m : Nat) (h : hits t m = false) : acc t (L ++ [m]) = acc t L := by
  unfold acc; rw [List.any_append]; simp [h]
theorem acc_full (t : List UInt8) (L : List Nat) (h : ∀ n, hits t n = true → n ∈ L) : acc t L = sz t := by
  unfold acc
  by_cases hz : sz t = 0
  · rw [hz]; simp
  · rw [if_pos (List.any_eq_true.2 ⟨sz t, h _ (sz_pos hz), sz_pos hz⟩)]
theorem acc_le (t : List UInt8) (L : List Nat) : acc t L ≤ 23 := by
  unfold acc; split
  · exact sz_23 t
  · omega
def sizes : List Nat := [20, 19, 19, 20, 23, 19]
theorem sizes_full (t : List UInt8) : acc t sizes = sz t := acc_full _ _ fun n h => by rcases hits_sizes h with rfl | rfl | rfl <;> decide
theorem sizes_at : ∀ j, j < 6 → sizes[j]? = some ((pres.tail.getD j []).length + 17) := by decide
theorem pretail_len : ∀ j, j < 6 → (pres.tail.getD j []).length ≤ 6 := by decide
theorem pretail_at : ∀ j, j < 6 → pres.tail[j]? = some (pres.tail.getD j []) := by decide

theorem sub_drop (l : List UInt8) (i n : Nat) : sub l i (i + n) = (l.drop i).take n := by
  unfold sub; rw [List.drop_take, Nat.add_sub_cancel_left]
theorem hits_at (s : List UInt8) (i n : Nat) (h : i + n ≤ s.length) : hits (s.drop i) n = pok (sub s i (i + n)) := by
  unfold hits
  rw [sub_drop, List.length_drop, decide_eq_true (by omega)]; rfl
theorem hits_out (s : List UInt8) (i n : Nat) (hi : i ≤ s.length) (h : s.length < i + n) : hits (s.drop i) n = false := by
  unfold hits
  rw [List.length_drop, decide_eq_false (by omega)]; rfl

/-- all names within a text -/
def findF : Nat → List UInt8 → List (List UInt8)
  | 0, _ => []
  | f + 1, t => if t = [] then [] else if sz t = 0 then findF f (t.drop 1) else t.take (sz t) :: findF f (t.drop (sz t))
def find (t : List UInt8) : List (List UInt8) := findF t.length t
theorem findF_more : ∀ (f g : Nat) (t : List UInt8), t.length ≤ f → t.length ≤ g → findF f t = findF g t
  | 0, g, t, h, _ => by
    have : t = [] := List.eq_nil_of_length_eq_zero (by omega)
    subst this
    cases g <;> simp [findF]
  | f + 1, 0, t, _, h => by
    have : t = [] := List.eq_nil_of_length_eq_zero (by omega)
    subst this
    simp [findF]
  | f + 1, g + 1, t, h, h' => by
    unfold findF
    by_cases ht : t = []
    · simp [ht]
    · have hl : 0 < t.length := List.length_pos_iff.2 ht
      rw [if_neg ht, if_neg ht]
      by_cases hz : sz t = 0
      · rw [if_pos hz, if_pos hz]
        exact findF_more f g _ (by simp; omega) (by simp; omega)
      · rw [if_neg hz, if_neg hz, findF_more f g _ (by simp; omega) (by simp; omega)]
theorem find_nil : find [] = [] := rfl
theorem find_skip {t : List UInt8} (ht : t ≠ []) (h : sz t = 0) : find t = find (t.drop 1) := by
  have hl : 0 < t.length := List.length_pos_iff.2 ht
  unfold find
  obtain ⟨f, hf⟩ : ∃ f, t.length = f + 1 := ⟨t.length - 1, by omega⟩
  rw [hf]
  conv => lhs; unfold findF
  rw [if_neg ht, if_pos h]
  exact findF_more _ _ _ (by simp; omega) (by simp)
theorem find_take {t : List UInt8} (h : sz t ≠ 0) : find t = t.take (sz t) :: find (t.drop (sz t)) := by
  have hl := sz_le t
  have ht : t ≠ [] := by rintro rfl; simp at hl; omega
  unfold find
  obtain ⟨f, hf⟩ : ∃ f, t.length = f + 1 := ⟨t.length - 1, by omega⟩
  rw [hf]
  conv => lhs; unfold findF
  rw [if_neg ht, if_neg h]
  rw [findF_more f (t.drop (sz t)).length _ (by simp; omega) (by simp)]
theorem find_short {t : List UInt8} (h : sz t = 0) : find t = find (t.drop 1) := by
  by_cases ht : t = []
  · subst ht; rfl
  · exact find_skip ht h
/-- are lists of texts one? -/
def teq (a b : List (List UInt8)) : Bool := a == b
theorem teq_true {a b : List (List UInt8)} : teq a b = true ↔ a = b := by simp [teq]
theorem teq_false {a b : List (List UInt8)} : teq a b = false ↔ a ≠ b := by simp [teq]
end Tk
end Go.Proofs.YtmdepmohfnficaaDoor
