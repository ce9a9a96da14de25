/- Plain facts on tickets' names: prefixes, digits, what a text is the name of. No program in sight. -/
namespace Go.Proofs.YtmdepmohfnficaaDoor
namespace Tk

/-- a digit's byte -/
def hexc (d : Nat) : UInt8 := if d < 10 then UInt8.ofNat (48 + d) else UInt8.ofNat (87 + d)
/-- a byte's digit -/
def hexv (c : UInt8) : Option Nat := if 48 ≤ c.toNat ∧ c.toNat ≤ 57 then some (c.toNat - 48) else if 97 ≤ c.toNat ∧ c.toNat ≤ 102 then some (c.toNat - 87) else none
theorem hexv_hexc : ∀ d, d < 16 → hexv (hexc d) = some d := by decide
theorem hexc_hexv (c : UInt8) (d : Nat) (h : hexv c = some d) : hexc d = c ∧ d < 16 := by
  unfold hexv at h
  have hc := c.toNat_lt
  split at h
  · cases h
    refine ⟨?_, by omega⟩
    unfold hexc
    rw [if_pos (by omega)]
    apply UInt8.toNat_inj.1
    rw [UInt8.toNat_ofNat']; omega
  · split at h
    · cases h
      refine ⟨?_, by omega⟩
      unfold hexc
      rw [if_neg (by omega)]
      apply UInt8.toNat_inj.1
      rw [UInt8.toNat_ofNat']; omega
    · cases h
/-- what digits tell, from n on -/
def tell : Nat → List UInt8 → Option Nat
  | n, [] => some n
  | n, c :: l => match hexv c with
    | some d => tell (16 * n + d) l
    | none => none
theorem tell_append : ∀ (a b : List UInt8) (n : Nat), tell n (a ++ b) = (tell n a).bind fun m => tell m b
  | [], b, n => rfl
  | c :: a, b, n => by
    simp only [List.cons_append, tell]
    cases hexv c with
    | none => rfl
    | some d => exact tell_append a b _
/-- so many digits of a number -/
def digs : Nat → Nat → List UInt8
  | 0, _ => []
  | k + 1, n => digs k (n / 16) ++ [hexc (n % 16)]
theorem digs_length : ∀ k n, (digs k n).length = k
  | 0, _ => rfl
  | k + 1, n => by simp [digs, digs_length k]
theorem tell_digs : ∀ k n m, tell m (digs k n) = some (16 ^ k * m + n % 16 ^ k)
  | 0, n, m => by simp [digs, tell, Nat.mod_one]
  | k + 1, n, m => by
    rw [digs, tell_append, tell_digs k]
    simp only [Option.bind_some, tell, hexv_hexc (n % 16) (Nat.mod_lt _ (by decide))]
    congr 1
    rw [Nat.pow_succ, show 16 ^ k * 16 = 16 * 16 ^ k from Nat.mul_comm _ _, Nat.mod_mul, Nat.mul_add, Nat.mul_assoc]
    omega
theorem digs_tell' : ∀ (k : Nat) (l : List UInt8) (n m : Nat), l.length = k → tell n l = some m → digs k m = l ∧ m / 16 ^ k = n
  | 0, l, n, m, hl, h => by
    have : l = [] := List.eq_nil_of_length_eq_zero hl
    subst this
    simp [tell] at h; subst h; simp [digs]
  | k + 1, l, n, m, hl, h => by
    rcases List.eq_nil_or_concat l with rfl | ⟨a, c, rfl⟩
    · simp at hl
    rw [List.concat_eq_append] at h hl ⊢
    rw [tell_append] at h
    cases ha : tell n a with
    | none => rw [ha] at h; cases h
    | some q =>
      rw [ha] at h
      simp only [Option.bind_some, tell] at h
      cases hc : hexv c with
      | none => rw [hc] at h; cases h
      | some d =>
        rw [hc] at h
        simp only [Option.some.injEq] at h
        subst h
        obtain ⟨e1, e2⟩ := digs_tell' k a n q (by simpa using hl) ha
        obtain ⟨e3, e4⟩ := hexc_hexv c d hc
        have hd : (16 * q + d) / 16 = q := by omega
        have hm : (16 * q + d) % 16 = d := by omega
        refine ⟨?_, ?_⟩
        · rw [digs, hd, hm, e1, e3]
        · rw [Nat.pow_succ, show 16 ^ k * 16 = 16 * 16 ^ k from Nat.mul_comm _ _, ← Nat.div_div_eq_div_mul, hd, e2]
theorem digs_tell (l : List UInt8) (n m : Nat) (h : tell n l = some m) : digs l.length m = l ∧ m / 16 ^ l.length = n := digs_tell' l.length l n m rfl h

/-- the kinds' prefixes -/
def pre : Nat → List UInt8
  | 1 => [84, 71, 84]
  | 2 => [83, 84]
  | 3 => [80, 84]
  | 4 => [80, 71, 84]
  | 5 => [80, 71, 84, 73, 79, 85]
  | 6 => [76, 84]
  | _ => []
def isKind (k : Nat) : Prop := 1 ≤ k ∧ k ≤ 6
theorem kind_cases {k : Nat} (h : isKind k) : k = 1 ∨ k = 2 ∨ k = 3 ∨ k = 4 ∨ k = 5 ∨ k = 6 := by unfold isKind at h; omega
/-- a name -/
def name (k n : Nat) : List UInt8 := pre k ++ [45] ++ digs 16 n
theorem pre_nodash {k : Nat} (h : isKind k) : ∀ c ∈ pre k, c ≠ 45 := by
  rcases kind_cases h with rfl | rfl | rfl | rfl | rfl | rfl <;> decide
theorem pre_ne {k : Nat} (h : isKind k) : pre k ≠ [] := by
  rcases kind_cases h with rfl | rfl | rfl | rfl | rfl | rfl <;> decide
theorem pre_inj {k m : Nat} (hk : isKind k) (hm : isKind m) (h : pre k = pre m) : k = m := by
  rcases kind_cases hk with rfl | rfl | rfl | rfl | rfl | rfl <;> rcases kind_cases hm with rfl | rfl | rfl | rfl | rfl | rfl <;> first | rfl | (exact absurd h (by decide))
theorem pre_length {k : Nat} (h : isKind k) : (pre k).length = 2 ∨ (pre k).length = 3 ∨ (pre k).length = 6 := by
  rcases kind_cases h with rfl | rfl | rfl | rfl | rfl | rfl <;> decide
theorem name_length (k n : Nat) : (name k n).length = (pre k).length + 17 := by simp [name, digs_length]

/-- the first place of a dash -/
def cutAt : List UInt8 → List UInt8 × Option (List UInt8)
  | [] => ([], none)
  | c :: l => if c = 45 then ([], some l) else ((c :: (cutAt l).1), (cutAt l).2)
theorem cutAt_dash : ∀ (p r : List UInt8), (∀ c ∈ p, c ≠ 45) → cutAt (p ++ 45 :: r) = (p, some r)
  | [], r, _ => by simp [cutAt]
  | c :: p, r, h => by
    have h1 : c ≠ 45 := h c (by simp)
    have ih := cutAt_dash p r (fun d hd => h d (by simp [hd]))
    simp only [List.cons_append, cutAt, if_neg h1, ih]
theorem cutAt_some : ∀ (s p r : List UInt8), cutAt s = (p, some r) → s = p ++ 45 :: r
  | [], p, r, h => by simp [cutAt] at h
  | c :: l, p, r, h => by
    unfold cutAt at h
    split at h
    · rename_i hc
      simp only [Prod.mk.injEq, Option.some.injEq] at h
      obtain ⟨rfl, rfl⟩ := h
      simp [hc]
    · simp only [Prod.mk.injEq] at h
      obtain ⟨rfl, h2⟩ := h
      have := cutAt_some l (cutAt l).1 r (by rw [← h2])
      conv => lhs; rw [this]
      rfl

/-- what a text is the name of -/
def IsName (s : List UInt8) (k n : Nat) : Prop := isKind k ∧ n < 2 ^ 64 ∧ s = name k n
theorem dig16_lt (n m : Nat) (l : List UInt8) (hl : l.length = 16) (h : tell 0 l = some n) : n < 2 ^ 64 ∧ l = digs 16 n ∧ m = m := by
  obtain ⟨e1, e2⟩ := digs_tell l 0 n h
  rw [hl] at e1 e2
  refine ⟨?_, e1.symm, rfl⟩
  have : (2 : Nat) ^ 64 = 16 ^ 16 := by decide
  rw [this]
  exact Nat.lt_of_div_eq_zero (by decide) e2
theorem tell_digs0 (n : Nat) (h : n < 2 ^ 64) : tell 0 (digs 16 n) = some n := by
  rw [tell_digs]
  have : (2 : Nat) ^ 64 = 16 ^ 16 := by decide
  rw [Nat.mod_eq_of_lt (by rw [← this]; exact h)]; simp
theorem isName_iff (s : List UInt8) (k n : Nat) : IsName s k n ↔ isKind k ∧ ∃ r, cutAt s = (pre k, some r) ∧ r.length = 16 ∧ tell 0 r = some n := by
  constructor
  · rintro ⟨hk, hn, rfl⟩
    refine ⟨hk, digs 16 n, ?_, digs_length _ _, tell_digs0 n hn⟩
    have := cutAt_dash (pre k) (digs 16 n) (pre_nodash hk)
    simpa [name] using this
  · rintro ⟨hk, r, hc, hl, ht⟩
    obtain ⟨h1, h2, _⟩ := dig16_lt n 0 r hl ht
    refine ⟨hk, h1, ?_⟩
    rw [cutAt_some s _ r hc, h2]
    simp [name]
theorem isName_unique {s : List UInt8} {k n k' n' : Nat} (h : IsName s k n) (h' : IsName s k' n') : k = k' ∧ n = n' := by
  obtain ⟨hk, r, hc, _, ht⟩ := (isName_iff s k n).1 h
  obtain ⟨hk', r', hc', _, ht'⟩ := (isName_iff s k' n').1 h'
  rw [hc] at hc'
  simp only [Prod.mk.injEq, Option.some.injEq] at hc'
  obtain ⟨e1, rfl⟩ := hc'
  rw [ht] at ht'
  exact ⟨pre_inj hk hk' e1, Option.some.inj ht'⟩
end Tk
end Go.Proofs.YtmdepmohfnficaaDoor
