/- Plain facts on tickets' names: prefixes, digits, what a text is the name of. No program in sight. -/
import Derived.Test.YtmdepmohfnficaaDoorStr
import Derived.Lib.Bytealg
import Derived.Test.YtmdepmohfnficaaDoorSeq
import Derived.Laws.Externs
import Derived.BigRegion
namespace Go.Proofs.YtmdepmohfnficaaDoor
set_option linter.unusedVariables false
set_option linter.unusedSimpArgs false
namespace Tk

/-- a digit's byte -/
def hexc (d : Nat) : UInt8 := if d < 10 then UInt8.ofNat (48 + d) else UInt8.ofNat (87 + d)
/-- a byte's digit -/
def hexv (c : UInt8) : Option Nat := if 48 ≤ c.toNat ∧ c.toNat ≤ 57 then some (c.toNat - 48) else if 97 ≤ c.toNat ∧ c.toNat ≤ 102 then some (c.toNat - 87) else none
theorem hexv_hexc : ∀ d, d < 16 → hexv (hexc d) = some d := by decide
theorem hexc_hexv (c : UInt8) (d : Nat) (h : hexv c = some d) : hexc d = c ∧ d < 16 := by
  unfold hexv at h
  have hc := c.toNat_lt
  split at h
  · cases h
    refine ⟨?_, by omega⟩
    unfold hexc
    rw [if_pos (by omega)]
    apply UInt8.toNat_inj.1
    rw [UInt8.toNat_ofNat']; omega
  · split at h
    · cases h
      refine ⟨?_, by omega⟩
      unfold hexc
      rw [if_neg (by omega)]
      apply UInt8.toNat_inj.1
      rw [UInt8.toNat_ofNat']; omega
    · cases h
/-- what digits tell, from n on -/
def tell : Nat → List UInt8 → Option Nat
  | n, [] => some n
  | n, c :: l => match hexv c with
    | some d => tell (16 * n + d) l
    | none => none
theorem tell_append : ∀ (a b : List UInt8) (n : Nat), tell n (a ++ b) = (tell n a).bind fun m => tell m b
  | [], b, n => rfl
  | c :: a, b, n => by
    simp only [List.cons_append, tell]
    cases hexv c with
    | none => rfl
    | some d => exact tell_append a b _
/-- so many digits of a number -/
def digs : Nat → Nat → List UInt8
  | 0, _ => []
  | k + 1, n => digs k (n / 16) ++ [hexc (n % 16)]
theorem digs_length : ∀ k n, (digs k n).length = k
  | 0, _ => rfl
  | k + 1, n => by simp [digs, digs_length k]
theorem tell_digs : ∀ k n m, tell m (digs k n) = some (16 ^ k * m + n % 16 ^ k)
  | 0, n, m => by simp [digs, tell, Nat.mod_one]
  | k + 1, n, m => by
    rw [digs, tell_append, tell_digs k]
    simp only [Option.bind_some, tell, hexv_hexc (n % 16) (Nat.mod_lt _ (by decide))]
    congr 1
    rw [Nat.pow_succ, show 16 ^ k * 16 = 16 * 16 ^ k from Nat.mul_comm _ _, Nat.mod_mul, Nat.mul_add, Nat.mul_assoc]
    omega
theorem digs_tell' : ∀ (k : Nat) (l : List UInt8) (n m : Nat), l.length = k → tell n l = some m → digs k m = l ∧ m / 16 ^ k = n
  | 0, l, n, m, hl, h => by
    have : l = [] := List.eq_nil_of_length_eq_zero hl
    subst this
    simp [tell] at h; subst h; simp [digs]
  | k + 1, l, n, m, hl, h => by
    rcases List.eq_nil_or_concat l with rfl | ⟨a, c, rfl⟩
    · simp at hl
    rw [List.concat_eq_append] at h hl ⊢
    rw [tell_append] at h
    cases ha : tell n a with
    | none => rw [ha] at h; cases h
    | some q =>
      rw [ha] at h
      simp only [Option.bind_some, tell] at h
      cases hc : hexv c with
      | none => rw [hc] at h; cases h
      | some d =>
        rw [hc] at h
        simp only [Option.some.injEq] at h
        subst h
        obtain ⟨e1, e2⟩ := digs_tell' k a n q (by simpa using hl) ha
        obtain ⟨e3, e4⟩ := hexc_hexv c d hc
        have hd : (16 * q + d) / 16 = q := by omega
        have hm : (16 * q + d) % 16 = d := by omega
        refine ⟨?_, ?_⟩
        · rw [digs, hd, hm, e1, e3]
        · rw [Nat.pow_succ, show 16 ^ k * 16 = 16 * 16 ^ k from Nat.mul_comm _ _, ← Nat.div_div_eq_div_mul, hd, e2]
theorem digs_tell (l : List UInt8) (n m : Nat) (h : tell n l = some m) : digs l.length m = l ∧ m / 16 ^ l.length = n := digs_tell' l.length l n m rfl h

/-- the kinds' prefixes -/
def pre : Nat → List UInt8
  | 1 => [84, 71, 84]
  | 2 => [83, 84]
  | 3 => [80, 84]
  | 4 => [80, 71, 84]
  | 5 => [80, 71, 84, 73, 79, 85]
  | 6 => [76, 84]
  | _ => []
def isKind (k : Nat) : Prop := 1 ≤ k ∧ k ≤ 6
theorem kind_cases {k : Nat} (h : isKind k) : k = 1 ∨ k = 2 ∨ k = 3 ∨ k = 4 ∨ k = 5 ∨ k = 6 := by unfold isKind at h; omega
/-- a name -/
def name (k n : Nat) : List UInt8 := pre k ++ [45] ++ digs 16 n
theorem pre_nodash {k : Nat} (h : isKind k) : ∀ c ∈ pre k, c ≠ 45 := by
  rcases kind_cases h with rfl | rfl | rfl | rfl | rfl | rfl <;> decide
theorem pre_ne {k : Nat} (h : isKind k) : pre k ≠ [] := by
  rcases kind_cases h with rfl | rfl | rfl | rfl | rfl | rfl <;> decide
theorem pre_inj {k m : Nat} (hk : isKind k) (hm : isKind m) (h : pre k = pre m) : k = m := by
  rcases kind_cases hk with rfl | rfl | rfl | rfl | rfl | rfl <;> rcases kind_cases hm with rfl | rfl | rfl | rfl | rfl | rfl <;> first | rfl | (exact absurd h (by decide))
theorem pre_length {k : Nat} (h : isKind k) : (pre k).length = 2 ∨ (pre k).length = 3 ∨ (pre k).length = 6 := by
  rcases kind_cases h with rfl | rfl | rfl | rfl | rfl | rfl <;> decide
theorem name_length (k n : Nat) : (name k n).length = (pre k).length + 17 := by simp [name, digs_length]

/-- the first place of a dash -/
def cutAt : List UInt8 → List UInt8 × Option (List UInt8)
  | [] => ([], none)
  | c :: l => if c = 45 then ([], some l) else ((c :: (cutAt l).1), (cutAt l).2)
theorem cutAt_dash : ∀ (p r : List UInt8), (∀ c ∈ p, c ≠ 45) → cutAt (p ++ 45 :: r) = (p, some r)
  | [], r, _ => by simp [cutAt]
  | c :: p, r, h => by
    have h1 : c ≠ 45 := h c (by simp)
    have ih := cutAt_dash p r (fun d hd => h d (by simp [hd]))
    simp only [List.cons_append, cutAt, if_neg h1, ih]
theorem cutAt_some : ∀ (s p r : List UInt8), cutAt s = (p, some r) → s = p ++ 45 :: r
  | [], p, r, h => by simp [cutAt] at h
  | c :: l, p, r, h => by
    unfold cutAt at h
    split at h
    · rename_i hc
      simp only [Prod.mk.injEq, Option.some.injEq] at h
      obtain ⟨rfl, rfl⟩ := h
      simp [hc]
    · simp only [Prod.mk.injEq] at h
      obtain ⟨rfl, h2⟩ := h
      have := cutAt_some l (cutAt l).1 r (by rw [← h2])
      conv => lhs; rw [this]
      rfl

/-- what a text is the name of -/
def IsName (s : List UInt8) (k n : Nat) : Prop := isKind k ∧ n < 2 ^ 64 ∧ s = name k n
theorem dig16_lt (n m : Nat) (l : List UInt8) (hl : l.length = 16) (h : tell 0 l = some n) : n < 2 ^ 64 ∧ l = digs 16 n ∧ m = m := by
  obtain ⟨e1, e2⟩ := digs_tell l 0 n h
  rw [hl] at e1 e2
  refine ⟨?_, e1.symm, rfl⟩
  have : (2 : Nat) ^ 64 = 16 ^ 16 := by decide
  rw [this]
  exact Nat.lt_of_div_eq_zero (by decide) e2
theorem tell_digs0 (n : Nat) (h : n < 2 ^ 64) : tell 0 (digs 16 n) = some n := by
  rw [tell_digs]
  have : (2 : Nat) ^ 64 = 16 ^ 16 := by decide
  rw [Nat.mod_eq_of_lt (by rw [← this]; exact h)]; simp
theorem isName_iff (s : List UInt8) (k n : Nat) : IsName s k n ↔ isKind k ∧ ∃ r, cutAt s = (pre k, some r) ∧ r.length = 16 ∧ tell 0 r = some n := by
  constructor
  · rintro ⟨hk, hn, rfl⟩
    refine ⟨hk, digs 16 n, ?_, digs_length _ _, tell_digs0 n hn⟩
    have := cutAt_dash (pre k) (digs 16 n) (pre_nodash hk)
    simpa [name] using this
  · rintro ⟨hk, r, hc, hl, ht⟩
    obtain ⟨h1, h2, _⟩ := dig16_lt n 0 r hl ht
    refine ⟨hk, h1, ?_⟩
    rw [cutAt_some s _ r hc, h2]
    simp [name]
theorem isName_unique {s : List UInt8} {k n k' n' : Nat} (h : IsName s k n) (h' : IsName s k' n') : k = k' ∧ n = n' := by
  obtain ⟨hk, r, hc, _, ht⟩ := (isName_iff s k n).1 h
  obtain ⟨hk', r', hc', _, ht'⟩ := (isName_iff s k' n').1 h'
  rw [hc] at hc'
  simp only [Prod.mk.injEq, Option.some.injEq] at hc'
  obtain ⟨e1, rfl⟩ := hc'
  rw [ht] at ht'
  exact ⟨pre_inj hk hk' e1, Option.some.inj ht'⟩
end Tk
end Go.Proofs.YtmdepmohfnficaaDoor


namespace Go.Proofs.YtmdepmohfnficaaDoor
set_option linter.unusedVariables false
set_option linter.unusedSimpArgs false
namespace Tk

/-! ### a name's digits, laid from behind -/
theorem digs_cons : ∀ k n, digs (k + 1) n = hexc (n / 16 ^ k % 16) :: digs k n
  | 0, n => by simp [digs]
  | k + 1, n => by
    rw [digs, digs_cons k (n / 16)]
    have e : n / 16 / 16 ^ k = n / 16 ^ (k + 1) := by rw [Nat.div_div_eq_div_mul, Nat.pow_succ, Nat.mul_comm]
    rw [e]
    rfl
/-- so many digits lie at the end, 0s ahead -/
def fill (k n : Nat) : List UInt8 := List.replicate (16 - k) 0 ++ digs k n
theorem fill_length (k n : Nat) (h : k ≤ 16) : (fill k n).length = 16 := by simp [fill, digs_length]; omega
theorem fill_set (k n : Nat) (h : k < 16) : (fill k n).set (15 - k) (hexc (n / 16 ^ k % 16)) = fill (k + 1) n := by
  unfold fill
  rw [digs_cons]
  have e : 16 - k = (15 - k) + 1 := by omega
  rw [e, List.replicate_succ', List.append_assoc, List.set_append_right _ _ (by simp)]
  simp only [List.length_replicate, Nat.sub_self, List.singleton_append, List.set_cons_zero]
  have e2 : 16 - (k + 1) = 15 - k := by omega
  rw [e2]
theorem fill_end (n : Nat) : fill 16 n = digs 16 n := by simp [fill]

/-! ### kinds as Go's numbers -/
def okK (k : Int) : Bool := decide (1 ≤ k ∧ k ≤ 6)
def preI (k : Int) : List UInt8 := if okK k then pre k.toNat else []
def nameI (k : Int) (n : Nat) : List UInt8 := if okK k then name k.toNat n else []
def errI (k : Int) : Int := if okK k then 0 else 8
theorem okK_kind {k : Int} (h : okK k = true) : isKind k.toNat := by unfold okK at h; unfold isKind; have := of_decide_eq_true h; omega
theorem okK_of {k : Nat} (h : isKind k) : okK (k : Int) = true := by unfold okK; unfold isKind at h; exact decide_eq_true (by omega)
theorem okK_of_toNat {k : Int} (h : isKind k.toNat) : okK k = true := by unfold okK; unfold isKind at h; exact decide_eq_true (by omega)
theorem preI_empty (k : Int) : seq (preI k) [] = !okK k := by
  cases h : okK k with
  | false => simp [preI, h, seq]
  | true =>
    have := pre_ne (okK_kind h)
    simp [preI, h, seq, this]

/-! ### where a byte is -/
theorem ixHex : ∀ n, n < 256 → Lib.indexByte [48, 49, 50, 51, 52, 53, 54, 55, 56, 57, 97, 98, 99, 100, 101, 102] (UInt8.ofNat n) = (match hexv (UInt8.ofNat n) with | some d => (d : Int) | none => -1) := by decide +kernel
/-- a byte's digit as a number, -1 where it has none -/
def hexI (c : UInt8) : Int := match hexv c with | some d => (d : Int) | none => -1
theorem ix_hex (c : UInt8) : Lib.indexByte [48, 49, 50, 51, 52, 53, 54, 55, 56, 57, 97, 98, 99, 100, 101, 102] c = hexI c := by
  have := ixHex c.toNat c.toNat_lt
  rw [UInt8.ofNat_toNat] at this
  exact this
theorem hexcs : ∀ d, d < 16 → ([48, 49, 50, 51, 52, 53, 54, 55, 56, 57, 97, 98, 99, 100, 101, 102] : List UInt8).getD d 0 = hexc d := by decide
theorem cut_ix : ∀ (s : List UInt8), (Lib.indexByte s 45 = -1 ∧ cutAt s = (s, none)) ∨ ∃ i : Nat, i < s.length ∧ Lib.indexByte s 45 = i ∧ cutAt s = (s.take i, some (s.drop (i + 1)))
  | [] => .inl ⟨rfl, rfl⟩
  | c :: l => by
    unfold Lib.indexByte cutAt
    by_cases h : c = 45
    · refine .inr ⟨0, by simp, by simp [h], by simp [h]⟩
    · have hb : (c == 45) = false := by simpa using h
      rcases cut_ix l with ⟨h1, h2⟩ | ⟨i, hi, h1, h2⟩
      · exact .inl ⟨by simp [hb, h1], by simp [h, h2]⟩
      · refine .inr ⟨i + 1, by simp; omega, ?_, by simp [h, h2]⟩
        have : ((i : Int) == -1) = false := by rw [beq_eq_false_iff_ne]; omega
        simp [hb, h1, this]
def cutP (s : List UInt8) : List UInt8 := (cutAt s).1
def cutR (s : List UInt8) : List UInt8 := (cutAt s).2.getD []
def cutB (s : List UInt8) : Bool := (cutAt s).2.isSome

/-! ### what digits tell -/
def drawOf (r : List UInt8) : Option Nat := if r.length = 16 then tell 0 r else none
def dn (r : List UInt8) : BitVec 64 := BitVec.ofNat 64 ((drawOf r).getD 0)
def dok (r : List UInt8) : Bool := (drawOf r).isSome
theorem tell_step (l : List UInt8) (k : Nat) (h : k < l.length) (n : Nat) : tell n (l.take (k + 1)) = (tell n (l.take k)).bind fun m => (hexv (byteAt l k)).map fun d => 16 * m + d := by
  rw [List.take_succ_eq_append_getElem h, tell_append]
  congr 1
  funext m
  have e : l[k] = byteAt l k := by simp [byteAt, List.getD, h]
  rw [e]
  simp only [tell]
  cases hexv (byteAt l k) <;> rfl
theorem tell_lt (l : List UInt8) (m : Nat) (h : tell 0 l = some m) : m < 16 ^ l.length := by
  have h2 := (digs_tell l 0 m h).2
  exact Nat.lt_of_div_eq_zero (Nat.pow_pos (by decide)) h2
theorem tell_cut (l : List UInt8) (k : Nat) (h : k < l.length) (hn : hexv (byteAt l k) = none) (n : Nat) : tell n l = none := by
  have e : l = l.take (k + 1) ++ l.drop (k + 1) := (List.take_append_drop _ _).symm
  rw [e, tell_append, tell_step l k h, hn]
  cases tell n (l.take k) <;> rfl
theorem hexv_lt {c : UInt8} {d : Nat} (h : hexv c = some d) : d < 16 := (hexc_hexv c d h).2
theorem or_step (x : BitVec 64) (d : Nat) (hx : x.toNat < 2 ^ 60) (hd : d < 16) : ((x <<< 4) ||| BitVec.ofInt 64 (d : Int)).toNat = 16 * x.toNat + d := by
  rw [BitVec.toNat_or, BitVec.toNat_shiftLeft, BitVec.ofInt_natCast, BitVec.toNat_ofNat]
  have h1 : x.toNat <<< 4 % 2 ^ 64 = x.toNat <<< 4 := by rw [Nat.shiftLeft_eq]; omega
  have h2 : d % 2 ^ 64 = d := by omega
  rw [h1, h2, ← Nat.shiftLeft_add_eq_or_of_lt (by omega), Nat.shiftLeft_eq]
  omega

/-! ### what a text is the name of -/
def ixOf : List (List UInt8) → List UInt8 → Int
  | [], _ => -1
  | a :: l, p => if seq p a then 0 else if ixOf l p = -1 then -1 else ixOf l p + 1
theorem ixOf_ge : ∀ l p, -1 ≤ ixOf l p
  | [], _ => by simp [ixOf]
  | a :: l, p => by unfold ixOf; have := ixOf_ge l p; split <;> (try split) <;> omega
theorem ixOf_lt : ∀ (l : List (List UInt8)) p, ixOf l p < l.length
  | [], _ => by simp [ixOf]
  | a :: l, p => by unfold ixOf; have := ixOf_lt l p; split <;> (try split) <;> simp <;> omega
theorem ixOf_skip : ∀ (l : List (List UInt8)) (p : List UInt8) (k : Nat), (∀ j, j < k → ∀ a, l[j]? = some a → p ≠ a) → ∀ a, l[k]? = some a → p = a → ixOf l p = k
  | [], p, k, _, a, h, _ => by simp at h
  | b :: l, p, 0, _, a, h, e => by
    have : b = a := by simpa using h
    subst this; subst e
    simp [ixOf, seq_self]
  | b :: l, p, k + 1, hj, a, h, e => by
    have h0 : seq p b = false := seq_false.2 (hj 0 (by omega) b (by simp))
    have ih := ixOf_skip l p k (fun j hjk a ha => hj (j + 1) (by omega) a (by simpa using ha)) a (by simpa using h) e
    unfold ixOf
    rw [h0, ih, if_neg (by simp), if_neg (by omega)]
    omega
theorem ixOf_none : ∀ (l : List (List UInt8)) (p : List UInt8), (∀ a ∈ l, p ≠ a) → ixOf l p = -1
  | [], _, _ => rfl
  | a :: l, p, h => by
    unfold ixOf
    rw [seq_false.2 (h a (by simp)), ixOf_none l p fun b hb => h b (by simp [hb])]
    simp
def pres : List (List UInt8) := [pre 0, pre 1, pre 2, pre 3, pre 4, pre 5, pre 6]
def kindOf (p : List UInt8) : Int := ixOf pres p
theorem kindOf_pre {k : Nat} (h : isKind k) : kindOf (pre k) = k := by
  rcases kind_cases h with rfl | rfl | rfl | rfl | rfl | rfl <;> decide
theorem kindOf_some {p : List UInt8} (h : 1 ≤ kindOf p) : isKind (kindOf p).toNat ∧ p = pre (kindOf p).toNat := by
  by_cases hm : ∃ k, isKind k ∧ p = pre k
  · obtain ⟨k, hk, rfl⟩ := hm
    rw [kindOf_pre hk]; exact ⟨by simpa using hk, by simp⟩
  · exfalso
    unfold kindOf at h
    by_cases h0 : p = []
    · subst h0; revert h; decide
    · rw [ixOf_none pres p fun a ha e => ?_] at h
      · omega
      · simp only [pres, List.mem_cons, List.not_mem_nil, or_false] at ha
        rcases ha with rfl | rfl | rfl | rfl | rfl | rfl | rfl
        · exact h0 e
        all_goals exact hm ⟨_, by unfold isKind; omega, e⟩
def parse (s : List UInt8) : Option (Nat × Nat) := match drawOf (cutR s) with
  | some n => if kindOf (cutP s) < 1 then none else some ((kindOf (cutP s)).toNat, n)
  | none => none
theorem parse_iff (s : List UInt8) (k n : Nat) : parse s = some (k, n) ↔ IsName s k n := by
  rw [isName_iff]
  unfold parse drawOf cutR cutP
  constructor
  · intro h
    cases hc : cutAt s with
    | mk p r =>
      rw [hc] at h
      cases r with
      | none => simp at h
      | some r =>
        simp only [Option.getD_some] at h
        by_cases hl : r.length = 16
        · rw [if_pos hl] at h
          cases ht : tell 0 r with
          | none => rw [ht] at h; cases h
          | some m =>
            rw [ht] at h
            dsimp only at h
            split at h
            · cases h
            · rename_i hk
              obtain ⟨h1, h2⟩ := kindOf_some (p := p) (by omega)
              simp only [Option.some.injEq, Prod.mk.injEq] at h
              obtain ⟨rfl, rfl⟩ := h
              exact ⟨h1, r, by rw [← h2], hl, ht⟩
        · rw [if_neg hl] at h; cases h
  · rintro ⟨hk, r, hc, hl, ht⟩
    rw [hc]
    simp only [Option.getD_some, if_pos hl, ht, kindOf_pre hk]
    rw [if_neg (by unfold isKind at hk; omega)]
    simp
theorem parse_name {k n : Nat} (hk : isKind k) (hn : n < 2 ^ 64) : parse (name k n) = some (k, n) := (parse_iff _ _ _).2 ⟨hk, hn, rfl⟩
def pok (s : List UInt8) : Bool := (parse s).isSome
def pk (s : List UInt8) : Int := match parse s with | some (k, _) => k | none => 0
def pn (s : List UInt8) : BitVec 64 := match parse s with | some (_, n) => BitVec.ofNat 64 n | none => 0#64
theorem parse_no1 {s : List UInt8} (h : dok (cutR s) = false) : pok s = false ∧ pk s = 0 ∧ pn s = 0#64 := by
  unfold dok at h
  have : drawOf (cutR s) = none := by simpa using h
  simp [pok, pk, pn, parse, this]
theorem parse_no2 {s : List UInt8} (h : kindOf (cutP s) < 1) : pok s = false ∧ pk s = 0 ∧ pn s = 0#64 := by
  have : parse s = none := by unfold parse; cases drawOf (cutR s) <;> simp [h]
  simp [pok, pk, pn, this]
theorem parse_yes {s : List UInt8} (h : dok (cutR s) = true) (h2 : ¬ kindOf (cutP s) < 1) : pok s = true ∧ pk s = kindOf (cutP s) ∧ pn s = dn (cutR s) := by
  unfold dok at h
  obtain ⟨n, hn⟩ := Option.isSome_iff_exists.1 h
  have : parse s = some ((kindOf (cutP s)).toNat, n) := by unfold parse; rw [hn]; simp [h2]
  simp [pok, pk, pn, this, dn, hn]
  omega
end Tk
end Go.Proofs.YtmdepmohfnficaaDoor


namespace Go.Proofs.YtmdepmohfnficaaDoor
set_option linter.unusedVariables false
set_option linter.unusedSimpArgs false
open Go.RowKit

/-! ### numbers of 64 bits -/
def V (x : BitVec 64) : Int := (x.toNat : Int)
theorem V_lo (x : BitVec 64) : 0 ≤ V x := by unfold V; omega
theorem V_hi (x : BitVec 64) : V x < 18446744073709551616 := by unfold V; omega
theorem V_inj {x y : BitVec 64} (h : V x = V y) : x = y := by unfold V at h; exact BitVec.eq_of_toNat_eq (by omega)
theorem ofInt_V (x : BitVec 64) : BitVec.ofInt 64 (V x) = x := by unfold V; rw [BitVec.ofInt_natCast]; simp
theorem V_ofInt (n : Int) (h0 : 0 ≤ n) (h1 : n < 18446744073709551616) : V (BitVec.ofInt 64 n) = n := by
  obtain ⟨m, rfl⟩ := Int.eq_ofNat_of_zero_le h0
  unfold V; rw [BitVec.ofInt_natCast, BitVec.toNat_ofNat]; omega
theorem wrapV (x : BitVec 64) : IntKind.u64.wrap (V x) = V x := by rw [IntKind.wrap_u64]; have := V_lo x; have := V_hi x; omega
@[go_sem] theorem bits_V_or (x : BitVec 64) (z : Int) : bits .or .u64 (V x) z = V (x ||| BitVec.ofInt 64 z) := by
  show IntKind.u64.wrap ((BitVec.ofInt 64 (V x) ||| BitVec.ofInt 64 z).toNat : Int) = _
  rw [ofInt_V]; exact wrapV _
@[go_sem] theorem bits_V_and15 (x : BitVec 64) : bits .and .u64 (V x) 15 = V (x &&& 15#64) := by
  show IntKind.u64.wrap ((BitVec.ofInt 64 (V x) &&& BitVec.ofInt 64 15).toNat : Int) = _
  rw [ofInt_V]; exact wrapV _
@[go_sem ↓] theorem shiftV_shl4 (yk : IntKind) (x : BitVec 64) : Op.shift .shl .u64 (V x) yk 4 = pure (.int .u64 (V (x <<< 4))) := by
  have h := shift_shl .u64 yk (V x) 4 (by omega) (by simp only [IntKind.bits]; omega)
  rw [h, IntKind.wrap_u64]
  congr 2
  unfold V
  rw [BitVec.toNat_shiftLeft, Nat.shiftLeft_eq]
  have : (4 : Int).toNat = 4 := rfl
  rw [this]
  omega
@[go_sem ↓] theorem shiftV_shr (yk : IntKind) (x : BitVec 64) (k : Nat) (h : k < 16) : Op.shift .shr .u64 (V x) yk (4 * (k : Int)) = pure (.int .u64 (V (x >>> (4 * k)))) := by
  rw [shift_shr .u64 yk (V x) (4 * (k : Int)) (by omega) (by simp only [IntKind.bits]; omega)]
  congr 2
  unfold V
  rw [BitVec.toNat_ushiftRight, Nat.shiftRight_eq_div_pow]
  have : (4 * (k : Int)).toNat = 4 * k := by omega
  rw [this]
  norm_cast
@[go_sem] theorem V_lo' (x : BitVec 64) : (0 ≤ V x) = True := eq_true (V_lo x)
theorem V_and15 (x : BitVec 64) : V (x &&& 15#64) < 16 := by
  unfold V; rw [BitVec.toNat_and]; have : x.toNat &&& (15#64).toNat ≤ (15#64).toNat := Nat.and_le_right; simp only [BitVec.toNat_ofNat] at this ⊢; omega
@[go_sem] theorem V_and15' (x : BitVec 64) : (V (x &&& 15#64) < 16) = True := eq_true (V_and15 x)
/-- a digit of a draw, as its byte -/
theorem digit_byte (x : BitVec 64) (k : Nat) : byteAt [48, 49, 50, 51, 52, 53, 54, 55, 56, 57, 97, 98, 99, 100, 101, 102] (V ((x >>> (4 * k)) &&& 15#64)).toNat = Tk.hexc (x.toNat / 16 ^ k % 16) := by
  have e : (V ((x >>> (4 * k)) &&& 15#64)).toNat = x.toNat / 16 ^ k % 16 := by
    unfold V
    rw [BitVec.toNat_and, BitVec.toNat_ushiftRight, Nat.shiftRight_eq_div_pow]
    have : (16 : Nat) ^ k = 2 ^ (4 * k) := by rw [Nat.pow_mul]
    rw [this]
    simp only [BitVec.toNat_ofNat, Int.toNat_natCast]
    exact Nat.and_two_pow_sub_one_eq_mod _ 4
  rw [e]
  exact Tk.hexcs _ (Nat.mod_lt _ (by decide))

/-! ### texts in slices -/
def sv (l : List UInt8) : Value := .string (str l)
/-- the prefixes of package ticket lie in the heap -/
def Pres (w : World) : Prop := ∀ k : Nat, k < 7 → w.cell? ⟨1, k, none⟩ = some (.string (str (Tk.pre k)))
theorem Pres.ext {w w' : World} (h : Pres w) (e : Ext w w') : Pres w' := fun k hk => e.cell (h k hk)
theorem Pres.sl0 {w : World} (h : Pres w) : Sl sv w (.slice (some ⟨1, 0, none⟩) 7 7) Tk.pres := by
  refine ⟨_, 7, rfl, by decide, by decide, (fun h => by cases h), fun j x hj => ⟨_, 0, rfl, ?_⟩⟩
  have hj7 : j < 7 := (List.getElem?_eq_some_iff.1 hj).1
  rw [Nat.zero_add, h j hj7]
  have : ∀ j, j < 7 → Tk.pres[j]? = some (Tk.pre j) := by decide
  rw [this j hj7] at hj
  cases hj; rfl
theorem Pres.sl1 {w : World} (h : Pres w) : Sl sv w (.slice (some ⟨1, 1, none⟩) 6 6) Tk.pres.tail := by
  refine ⟨_, 6, rfl, by decide, by decide, (fun h => by cases h), fun j x hj => ⟨_, 1, rfl, ?_⟩⟩
  have hj7 : j < 6 := (List.getElem?_eq_some_iff.1 hj).1
  rw [h (1 + j) (by omega)]
  have : ∀ j, j < 6 → Tk.pres.tail[j]? = some (Tk.pre (1 + j)) := by decide
  rw [this j hj7] at hj
  cases hj; rfl

theorem indexByte0_any (s : List UInt8) (c : UInt8) (w : World) :
    Calls Tryd.prog 125 #[.string (str s), .int .u8 (c.toNat : Int)] w fun e w' => e = .returned (.int .i64 (Lib.indexByte s c)) ∧ w = w' := by
  have hd : (callFunc 129 #[.string (str s), .int .u8 (c.toNat : Int)]).run Tryd.prog w = .ok (.value (.int .i64 (Lib.indexByte s c))) w := by
    rw [run_callFunc_extern (e := Extern.BytealgIndexByte.indexByte) Tryd.func129 (by kernel_rfl) (by kernel_rfl) (by kernel_rfl) (by kernel_rfl), Lib.run_indexByteString]
    have : ((c.toNat : Int).toNat.toUInt8) = c := by simp
    rw [this]; rfl
  go_enter Tryd.func125, Tryd.ntmps125
  go_wp2
  go_ret
  exact ⟨rfl, rfl⟩
theorem indexByte_any (s : List UInt8) (c : UInt8) (w : World) :
    Calls Tryd.prog 123 #[.string (str s), .int .u8 (c.toNat : Int)] w fun e w' => e = .returned (.int .i64 (Lib.indexByte s c)) ∧ w = w' := by
  go_enter Tryd.func123, Tryd.ntmps123
  go_wp2_with (go_at_call 125; refine (indexByte0_any _ _ _).mono ?_; rintro e w' ⟨rfl, rfl⟩)
  go_ret
  exact ⟨rfl, rfl⟩
end Go.Proofs.YtmdepmohfnficaaDoor


namespace Go.Proofs.YtmdepmohfnficaaDoor
set_option linter.unusedVariables false
set_option linter.unusedSimpArgs false
open Go.RowKit

theorem index_one (s p : List UInt8) (hl : p.length = 1) (w : World) :
    Calls Tryd.prog 124 #[.string (str s), .string (str p)] w fun e w' => e = .returned (.int .i64 (Lib.indexByte s (byteAt p 0))) ∧ w = w' := by
  cases hps : seq p s
  · go_enter Tryd.func124, Tryd.ntmps124
    go_wp2_with (go_at_call 125; refine (indexByte0_any _ _ _).mono ?_; rintro e w' ⟨rfl, rfl⟩)
    go_ret
    exact ⟨rfl, rfl⟩
  · have e0 : Lib.indexByte s (byteAt p 0) = 0 := by
      have := seq_true.1 hps
      subst this
      match p, hl with
      | [c], _ => simp [Lib.indexByte, byteAt]
    rw [e0]
    go_enter Tryd.func124, Tryd.ntmps124
    go_wp2
    go_ret
    exact ⟨rfl, rfl⟩
def dash : List UInt8 := [45]
theorem index_dash (s : List UInt8) (w : World) :
    Calls Tryd.prog 124 #[.string (str s), .string (str dash)] w fun e w' => e = .returned (.int .i64 (Lib.indexByte s 45)) ∧ w = w' := index_one s dash rfl w

theorem cut0_any (s : List UInt8) (hs : s.length ≤ 9223372036854775807) (w : World) :
    Calls Tryd.prog 122 #[.string (str s), .string (str dash)] w fun e w' => e = .returned (.tuple #[.string (str (Tk.cutP s)), .string (str (Tk.cutR s)), .bool (Tk.cutB s)]) ∧ Ext w w' := by
  have hl : dash.length = 1 := rfl
  have e0 := Ext.refl w
  rcases Tk.cut_ix s with ⟨h1, h2⟩ | ⟨i, hi, h1, h2⟩
  · go_enter Tryd.func122, Tryd.ntmps122
    go_wp2_with (go_at_call 124; refine (index_dash _ _).mono ?_; rintro e w' ⟨rfl, rfl⟩; simp only [h1])
    go_ret3
    refine ⟨?_, e0⟩
    simp [Tk.cutP, Tk.cutR, Tk.cutB, h2]
    rfl
  · have hi1 : i + 1 ≤ s.length := hi
    go_enter Tryd.func122, Tryd.ntmps122
    go_wp2_with (first | (go_at_call 124; refine (index_dash _ _).mono ?_; rintro e w' ⟨rfl, rfl⟩; simp only [h1]) | go_region)
    go_ret3
    refine ⟨?_, e0.drew⟩
    simp [Tk.cutP, Tk.cutR, Tk.cutB, h2]
    first | exact ⟨by rw [str_extract]; simp [sub], by rw [str_extract]; unfold sub; rw [List.take_length]⟩ | exact ⟨by simp [sub], by unfold sub; rw [List.take_length]⟩
theorem cut_any (s : List UInt8) (hs : s.length ≤ 9223372036854775807) (w : World) :
    Calls Tryd.prog 119 #[.string (str s), .string (str dash)] w fun e w' => e = .returned (.tuple #[.string (str (Tk.cutP s)), .string (str (Tk.cutR s)), .bool (Tk.cutB s)]) ∧ Ext w w' := by
  go_enter Tryd.func119, Tryd.ntmps119
  go_wp2_with (go_at_call 122; refine (cut0_any _ hs _).mono ?_; rintro e w' ⟨rfl, h⟩)
  go_ret3
  exact ⟨rfl, h⟩

/-- digits of a number, as the program writes them -/
def hexs : List UInt8 := [48, 49, 50, 51, 52, 53, 54, 55, 56, 57, 97, 98, 99, 100, 101, 102]
theorem ixhex_any (c : UInt8) (w : World) :
    Calls Tryd.prog 123 #[.string (str [48, 49, 50, 51, 52, 53, 54, 55, 56, 57, 97, 98, 99, 100, 101, 102]), .int .u8 (c.toNat : Int)] w fun e w' => e = .returned (.int .i64 (Tk.hexI c)) ∧ w = w' := by
  rw [← Tk.ix_hex c]; exact indexByte_any _ c w
theorem wrap_u64_nat (d : Nat) (h : d < 16) : IntKind.u64.wrap (d : Int) = (d : Int) := by rw [IntKind.wrap_u64]; omega
set_option maxHeartbeats 400000 in
theorem draw_any (r : List UInt8) (w : World) :
    Calls Tryd.prog 120 #[.string (str r)] w fun e w' => e = .returned (.tuple #[.int .u64 (V (Tk.dn r)), .bool (Tk.dok r)]) ∧ w = w' := by
  by_cases hl : r.length = 16
  · have hd : Tk.drawOf r = Tk.tell 0 r := by unfold Tk.drawOf; rw [if_pos hl]
    go_enter Tryd.func120, Tryd.ntmps120
    go_wp2
    go_loop [4, 12] (fun n i => ∃ (k : Nat) (x : BitVec 64), k ≤ 16 ∧ i = .int .i64 k ∧ n = .int .u64 (V x) ∧ RowKit.Hid (Tk.tell 0 (r.take k) = some x.toNat)) (fun _ i => 16 - (intOf i).toNat)
    case atStart => exact ⟨0, 0#64, by omega, rfl, rfl, Lib.hid rfl⟩
    case round =>
      obtain ⟨k, x, hk, rfl, rfl, hx⟩ := hrel
      by_cases hlt : k < 16
      · have hst := Tk.tell_step r k (by omega) 0
        have hb := Tk.tell_lt _ _ hx.out
        rw [hx.out] at hst
        cases hh : Tk.hexv (byteAt r k) with
        | none =>
          have hI : Tk.hexI (byteAt r k) = -1 := by unfold Tk.hexI; rw [hh]
          have hno := Tk.tell_cut r k (by omega) hh 0
          have hfin : RowKit.Hid (Tk.dn r = 0#64 ∧ Tk.dok r = false) := Lib.hid (by unfold Tk.dn Tk.dok; rw [hd, hno]; simp)
          clear hst hb hno hd hx hh
          go_wp2_with (go_at_call 123; refine (ixhex_any _ _).mono ?_; rintro e w' ⟨rfl, rfl⟩; simp only [hI])
          go_ret2
          exact ⟨by rw [hfin.out.1, hfin.out.2]; rfl, rfl⟩
        | some d =>
          have hI : Tk.hexI (byteAt r k) = d := by unfold Tk.hexI; rw [hh]
          have hd16 := Tk.hexv_lt hh
          have hx60 : x.toNat < 2 ^ 60 := by
            rw [List.length_take] at hb
            exact Nat.lt_of_lt_of_le hb (Nat.le_trans (Nat.pow_le_pow_right (by decide) (show min k r.length ≤ 15 by omega)) (by decide))
          have hst2 : RowKit.Hid (Tk.tell 0 (r.take (k + 1)) = some ((x <<< 4) ||| BitVec.ofInt 64 (d : Int)).toNat) := Lib.hid (by
            rw [hst, hh, Tk.or_step x d hx60 hd16]; rfl)
          have hw := wrap_u64_nat d hd16
          clear hst hb hh hx60 hd hx
          go_wp2_with (go_at_call 123; refine (ixhex_any _ _).mono ?_; rintro e w' ⟨rfl, rfl⟩; simp only [hI])
          go_round
          case rel => exact ⟨k + 1, _, by omega, by go_num, by first | rfl | rw [hw], hst2⟩
          case measure => simp [intOf]; omega
      · obtain rfl : k = 16 := by omega
        have hfin : RowKit.Hid (Tk.dn r = x ∧ Tk.dok r = true) := Lib.hid (by
          have h := hx.out
          rw [List.take_of_length_le (by omega)] at h
          unfold Tk.dn Tk.dok; rw [hd, h]; simp)
        go_wp2
        go_ret2
        exact ⟨by rw [hfin.out.1, hfin.out.2]; rfl, rfl⟩
  · have hfin : RowKit.Hid (Tk.dn r = 0#64 ∧ Tk.dok r = false) := Lib.hid (by unfold Tk.dn Tk.dok Tk.drawOf; rw [if_neg hl]; simp)
    have hb : ((r.length : Int) != 16) = true := by
      have : (r.length : Int) ≠ 16 := by omega
      simp [bne_iff_ne, this]
    clear hl
    go_enter Tryd.func120, Tryd.ntmps120
    go_wp2
    go_ret2
    exact ⟨by rw [hfin.out.1, hfin.out.2]; rfl, rfl⟩
end Go.Proofs.YtmdepmohfnficaaDoor


namespace Go.Proofs.YtmdepmohfnficaaDoor
set_option linter.unusedVariables false
set_option linter.unusedSimpArgs false
open Go.RowKit

/-! ### slices.Index over texts -/
theorem ixOf_step (l : List (List UInt8)) (p : List UInt8) (k : Nat) (a : List UInt8) (h : l[k]? = some a) (hn : ∀ j, j < k → ∀ b, l[j]? = some b → p ≠ b) (hs : seq p a = true) : Tk.ixOf l p = k :=
  Tk.ixOf_skip l p k hn a h (seq_true.1 hs)
set_option maxHeartbeats 400000 in
theorem slicesIndex_any (v : Value) (l : List (List UInt8)) (p : List UInt8) (w : World) (hb : Sl sv w v l) :
    Calls Tryd.prog 88 #[v, .string (str p)] w fun e w' => e = .returned (.int .i64 (Tk.ixOf l p)) ∧ w = w' := by
  obtain ⟨a, cap, rfl, hb⟩ := hb
  have hlen := hb.len
  go_enter Tryd.func88, Tryd.ntmps88
  go_wp2
  go_loop [8] (fun i => ∃ k : Nat, k ≤ l.length ∧ i = .int .i64 k ∧ RowKit.Hid (∀ j, j < k → ∀ b, l[j]? = some b → p ≠ b)) (fun i => l.length - (intOf i).toNat)
  case atStart => exact ⟨0, Nat.zero_le _, rfl, Lib.hid (fun j hj => by omega)⟩
  case round =>
    obtain ⟨k, hk, rfl, hn⟩ := hrel
    by_cases hlt : k < l.length
    · obtain ⟨b, hbk⟩ : ∃ b, l[k]? = some b := ⟨l[k], List.getElem?_eq_getElem hlt⟩
      obtain ⟨g, o, rfl, hcell⟩ := hb.cells k b hbk
      unfold sv at hcell
      cases hs : seq p b
      · have hn2 : RowKit.Hid (∀ j, j < k + 1 → ∀ b, l[j]? = some b → p ≠ b) := Lib.hid (by
          intro j hj c hc
          by_cases hjk : j = k
          · subst hjk
            rw [hbk] at hc; cases hc
            exact seq_false.1 hs
          · exact hn.out j (by omega) c hc)
        clear hbk
        go_wp2
        go_round
        case rel => exact ⟨k + 1, by omega, by go_num, hn2⟩
        case measure => simp [intOf]; omega
      · have hfin : RowKit.Hid (Tk.ixOf l p = k) := Lib.hid (ixOf_step l p k b hbk hn.out hs)
        clear hbk
        go_wp2
        go_ret
        exact ⟨by rw [hfin.out]; rfl, rfl⟩
    · have hfin : RowKit.Hid (Tk.ixOf l p = -1) := Lib.hid (Tk.ixOf_none l p fun a ha => by
        obtain ⟨j, hj⟩ := List.getElem?_of_mem ha
        exact hn.out j (by have := (List.getElem?_eq_some_iff.1 hj).1; omega) a hj)
      go_wp2
      go_ret
      exact ⟨by rw [hfin.out]; rfl, rfl⟩
theorem kindOf_any (p : List UInt8) (w : World) (hw : Pres w) :
    Calls Tryd.prog 88 #[.slice (some ⟨1, 0, none⟩) 7 7, .string (str p)] w fun e w' => e = .returned (.int .i64 (Tk.kindOf p)) ∧ w = w' := slicesIndex_any _ _ p w hw.sl0

theorem parse_any (s : List UInt8) (hs : s.length ≤ 9223372036854775807) (w : World) (hw : Pres w) :
    Calls Tryd.prog 112 #[.string (str s)] w fun e w' => e = .returned (.tuple #[.int .i64 (Tk.pk s), .int .u64 (V (Tk.pn s)), .bool (Tk.pok s)]) ∧ Ext w w' := by
  cases hd : Tk.dok (Tk.cutR s)
  · have hfin := Lib.hid (Tk.parse_no1 hd)
    go_enter Tryd.func112, Tryd.ntmps112
    go_wp2_with (first
      | (go_at_call 119; refine (cut_any _ hs _).mono ?_; rintro e w' ⟨rfl, h⟩)
      | (go_at_call 120; refine (draw_any _ _).mono ?_; rintro e w' ⟨rfl, rfl⟩)
      | (go_at_call 88; refine (kindOf_any _ _ (hw.ext h)).mono ?_; rintro e w' ⟨rfl, rfl⟩))
    go_ret3
    exact ⟨by rw [hfin.out.1, hfin.out.2.1, hfin.out.2.2]; rfl, h⟩
  · by_cases hk : Tk.kindOf (Tk.cutP s) < 1
    · have hfin := Lib.hid (Tk.parse_no2 hk)
      go_enter Tryd.func112, Tryd.ntmps112
      go_wp2_with (first
        | (go_at_call 119; refine (cut_any _ hs _).mono ?_; rintro e w' ⟨rfl, h⟩)
        | (go_at_call 120; refine (draw_any _ _).mono ?_; rintro e w' ⟨rfl, rfl⟩)
        | (go_at_call 88; refine (kindOf_any _ _ (hw.ext h)).mono ?_; rintro e w' ⟨rfl, rfl⟩))
      go_ret3
      exact ⟨by rw [hfin.out.1, hfin.out.2.1, hfin.out.2.2]; rfl, h⟩
    · have hfin := Lib.hid (Tk.parse_yes hd hk)
      go_enter Tryd.func112, Tryd.ntmps112
      go_wp2_with (first
        | (go_at_call 119; refine (cut_any _ hs _).mono ?_; rintro e w' ⟨rfl, h⟩)
        | (go_at_call 120; refine (draw_any _ _).mono ?_; rintro e w' ⟨rfl, rfl⟩)
        | (go_at_call 88; refine (kindOf_any _ _ (hw.ext h)).mono ?_; rintro e w' ⟨rfl, rfl⟩))
      go_ret3
      exact ⟨by rw [hfin.out.1, hfin.out.2.1, hfin.out.2.2]; rfl, h⟩
/-- is a text a name of a kind? -/
def isI (s : List UInt8) (k : Int) : Bool := Tk.pok s && (Tk.pk s == k)
theorem is_any (s : List UInt8) (hs : s.length ≤ 9223372036854775807) (k : Int) (w : World) (hw : Pres w) :
    Calls Tryd.prog 99 #[.string (str s), .int .i64 k] w fun e w' => e = .returned (.bool (isI s k)) ∧ Ext w w' := by
  cases hp : Tk.pok s
  · have hfin : RowKit.Hid (isI s k = false) := Lib.hid (by unfold isI; rw [hp]; rfl)
    go_enter Tryd.func99, Tryd.ntmps99
    go_wp2_with (go_at_call 112; refine (parse_any _ hs _ hw).mono ?_; rintro e w' ⟨rfl, h⟩)
    go_ret
    exact ⟨by rw [hfin.out]; rfl, h⟩
  · have hfin : RowKit.Hid (isI s k = (Tk.pk s == k)) := Lib.hid (by unfold isI; rw [hp]; rfl)
    go_enter Tryd.func99, Tryd.ntmps99
    go_wp2_with (go_at_call 112; refine (parse_any _ hs _ hw).mono ?_; rintro e w' ⟨rfl, h⟩)
    go_ret
    exact ⟨by rw [hfin.out]; rfl, h⟩

/-! ### names -/
/-- block g holds just these bytes -/
def RowB (w : World) (g : Nat) (l : List UInt8) : Prop := ∃ cur : Array Value, w.heap[g]? = some (.cells cur 5 (0, 0)) ∧ cur.toList = l.map u8v
theorem RowB.set {w : World} {g : Nat} {l : List UInt8} (h : RowB w g l) (j : Nat) (c : UInt8) : RowB (w.setCell ⟨g, j, none⟩ (.int .u8 (c.toNat : Int))) g (l.set j c) := by
  obtain ⟨cur, h1, h2⟩ := h
  refine ⟨_, setCell_row w g j cur _ _ _ h1, ?_⟩
  rw [Array.toList_setIfInBounds, h2, List.map_set]; rfl
theorem RowB.cell {w : World} {g : Nat} {l : List UInt8} (h : RowB w g l) (j : Nat) (hj : j < l.length) : w.cell? ⟨g, j, none⟩ = some (.int .u8 ((l.getD j 0).toNat : Int)) := by
  obtain ⟨cur, h1, h2⟩ := h
  rw [cell_of_row _ _ _ _ _ _ h1]
  have e : cur.toList[j]? = (l.map u8v)[j]? := by rw [h2]
  rw [List.getElem?_map, List.getElem?_eq_getElem hj] at e
  simpa [u8v, List.getD, hj] using e
theorem RowB.free {w : World} {g : Nat} {l : List UInt8} (h : RowB w g l) (j : Nat) : w.frozen? ⟨g, j, none⟩ = false := by
  obtain ⟨cur, h1, h2⟩ := h
  simp [World.frozen?, h1]
theorem RowB.bytes {w : World} {g n cap : Nat} {l : List UInt8} (h : RowB w g l) (hn : n = l.length) (hc : l.length ≤ cap) (hm : cap ≤ maxLen) : Bytes w (.slice (some ⟨g, 0, none⟩) n cap) l := by
  refine Bytes.row hn hc hm fun j hj => ?_
  rw [Nat.zero_add, h.cell j hj]
  simp [List.getD, hj]
theorem RowB.made {w : World} {g : Nat} {C : Array Value} {l : List UInt8} (hg : g = w.heap.size) (hC : C.toList = l.map u8v) : RowB (w.alloc (.cells C 5)) g l := by
  subst hg
  exact ⟨C, heap_alloc_new w _, hC⟩
def zero16 : Array Value := ((List.replicate 16 0).map u8v).toArray

end Go.Proofs.YtmdepmohfnficaaDoor


namespace Go.Proofs.YtmdepmohfnficaaDoor
set_option linter.unusedVariables false
set_option linter.unusedSimpArgs false
namespace Tk

/-- do the first n bytes tell a name? -/
def hits (t : List UInt8) (n : Nat) : Bool := decide (n ≤ t.length) && pok (t.take n)
theorem pok_iff (s : List UInt8) : pok s = true ↔ ∃ k n, IsName s k n := by
  unfold pok
  constructor
  · intro h
    obtain ⟨⟨k, n⟩, h⟩ := Option.isSome_iff_exists.1 h
    exact ⟨k, n, (parse_iff _ _ _).1 h⟩
  · rintro ⟨k, n, h⟩
    rw [(parse_iff _ _ _).2 h]; rfl
theorem hits_iff (t : List UInt8) (n : Nat) : hits t n = true ↔ n ≤ t.length ∧ ∃ k m, IsName (t.take n) k m := by
  unfold hits
  rw [Bool.and_eq_true, decide_eq_true_iff, pok_iff]
theorem hits_cut {t : List UInt8} {n : Nat} (h : hits t n = true) : ∃ k m, isKind k ∧ m < 2 ^ 64 ∧ n = (pre k).length + 17 ∧ t.take n = name k m ∧ cutAt t = (pre k, some (digs 16 m ++ t.drop n)) := by
  obtain ⟨hn, k, m, hk, hm, he⟩ := (hits_iff t n).1 h
  refine ⟨k, m, hk, hm, ?_, he, ?_⟩
  · have := congrArg List.length he
    rw [name_length, List.length_take] at this
    omega
  · have e : t = pre k ++ 45 :: (digs 16 m ++ t.drop n) := by
      conv => lhs; rw [← List.take_append_drop n t, he]
      simp [name]
    conv => lhs; rw [e]
    exact cutAt_dash _ _ (pre_nodash hk)
theorem hits_unique {t : List UInt8} {n m : Nat} (h : hits t n = true) (h' : hits t m = true) : n = m := by
  obtain ⟨k, a, hk, _, e1, _, c1⟩ := hits_cut h
  obtain ⟨k', a', hk', _, e2, _, c2⟩ := hits_cut h'
  rw [c1] at c2
  have : pre k = pre k' := by simpa using (Prod.mk.inj c2).1
  rw [e1, e2, this]
theorem hits_sizes {t : List UInt8} {n : Nat} (h : hits t n = true) : n = 19 ∨ n = 20 ∨ n = 23 := by
  obtain ⟨k, a, hk, _, e1, _, c1⟩ := hits_cut h
  rcases pre_length hk with h | h | h <;> omega
/-- how long the name at the beginning is, 0 where there is none -/
def sz (t : List UInt8) : Nat := if hits t 19 then 19 else if hits t 20 then 20 else if hits t 23 then 23 else 0
theorem sz_hit {t : List UInt8} {n : Nat} (h : hits t n = true) : sz t = n := by
  have h2 : ∀ m, hits t m = true → n = m := fun m h' => hits_unique h h'
  rcases hits_sizes h with rfl | rfl | rfl <;> unfold sz
  · rw [if_pos h]
  · by_cases h19 : hits t 19 = true
    · exact absurd (h2 _ h19) (by decide)
    · rw [if_neg h19, if_pos h]
  · by_cases h19 : hits t 19 = true
    · exact absurd (h2 _ h19) (by decide)
    · by_cases h20 : hits t 20 = true
      · exact absurd (h2 _ h20) (by decide)
      · rw [if_neg h19, if_neg h20, if_pos h]
theorem sz_no {t : List UInt8} (h : ∀ n, hits t n = false) : sz t = 0 := by unfold sz; simp [h]
theorem sz_pos {t : List UInt8} (h : sz t ≠ 0) : hits t (sz t) = true := by
  unfold sz at h ⊢
  split
  · assumption
  · split
    · assumption
    · split
      · assumption
      · rename_i a b c; rw [if_neg a, if_neg b, if_neg c] at h; exact absurd rfl h
theorem sz_le (t : List UInt8) : sz t ≤ t.length := by
  by_cases h : sz t = 0
  · omega
  · exact ((hits_iff _ _).1 (sz_pos h)).1
theorem sz_23 (t : List UInt8) : sz t ≤ 23 := by
  by_cases h : sz t = 0
  · omega
  · rcases hits_sizes (sz_pos h) with e | e | e <;> omega
/-- the name that was found when so many sizes were tried -/
def acc (t : List UInt8) (L : List Nat) : Nat := if L.any (hits t) then sz t else 0
theorem acc_nil (t : List UInt8) : acc t [] = 0 := rfl
theorem acc_hit (t : List UInt8) (L : List Nat) (m : Nat) (h : hits t m = true) : acc t (L ++ [m]) = m := by
  unfold acc; rw [List.any_append]; simp [h, sz_hit h]
theorem acc_miss (t : List UInt8) (L : List Nat) (m : Nat) (h : hits t m = false) : acc t (L ++ [m]) = acc t L := by
  unfold acc; rw [List.any_append]; simp [h]
theorem acc_full (t : List UInt8) (L : List Nat) (h : ∀ n, hits t n = true → n ∈ L) : acc t L = sz t := by
  unfold acc
  by_cases hz : sz t = 0
  · rw [hz]; simp
  · rw [if_pos (List.any_eq_true.2 ⟨sz t, h _ (sz_pos hz), sz_pos hz⟩)]
theorem acc_le (t : List UInt8) (L : List Nat) : acc t L ≤ 23 := by
  unfold acc; split
  · exact sz_23 t
  · omega
def sizes : List Nat := [20, 19, 19, 20, 23, 19]
theorem sizes_full (t : List UInt8) : acc t sizes = sz t := acc_full _ _ fun n h => by rcases hits_sizes h with rfl | rfl | rfl <;> decide
theorem sizes_at : ∀ j, j < 6 → sizes[j]? = some ((pres.tail.getD j []).length + 17) := by decide
theorem pretail_len : ∀ j, j < 6 → (pres.tail.getD j []).length ≤ 6 := by decide
theorem pretail_at : ∀ j, j < 6 → pres.tail[j]? = some (pres.tail.getD j []) := by decide

theorem sub_drop (l : List UInt8) (i n : Nat) : sub l i (i + n) = (l.drop i).take n := by
  unfold sub; rw [List.drop_take, Nat.add_sub_cancel_left]
theorem hits_at (s : List UInt8) (i n : Nat) (h : i + n ≤ s.length) : hits (s.drop i) n = pok (sub s i (i + n)) := by
  unfold hits
  rw [sub_drop, List.length_drop, decide_eq_true (by omega)]; rfl
theorem hits_out (s : List UInt8) (i n : Nat) (hi : i ≤ s.length) (h : s.length < i + n) : hits (s.drop i) n = false := by
  unfold hits
  rw [List.length_drop, decide_eq_false (by omega)]; rfl

/-- all names within a text -/
def findF : Nat → List UInt8 → List (List UInt8)
  | 0, _ => []
  | f + 1, t => if t = [] then [] else if sz t = 0 then findF f (t.drop 1) else t.take (sz t) :: findF f (t.drop (sz t))
def find (t : List UInt8) : List (List UInt8) := findF t.length t
theorem findF_more : ∀ (f g : Nat) (t : List UInt8), t.length ≤ f → t.length ≤ g → findF f t = findF g t
  | 0, g, t, h, _ => by
    have : t = [] := List.eq_nil_of_length_eq_zero (by omega)
    subst this
    cases g <;> simp [findF]
  | f + 1, 0, t, _, h => by
    have : t = [] := List.eq_nil_of_length_eq_zero (by omega)
    subst this
    simp [findF]
  | f + 1, g + 1, t, h, h' => by
    unfold findF
    by_cases ht : t = []
    · simp [ht]
    · have hl : 0 < t.length := List.length_pos_iff.2 ht
      rw [if_neg ht, if_neg ht]
      by_cases hz : sz t = 0
      · rw [if_pos hz, if_pos hz]
        exact findF_more f g _ (by simp; omega) (by simp; omega)
      · rw [if_neg hz, if_neg hz, findF_more f g _ (by simp; omega) (by simp; omega)]
theorem find_nil : find [] = [] := rfl
theorem find_skip {t : List UInt8} (ht : t ≠ []) (h : sz t = 0) : find t = find (t.drop 1) := by
  have hl : 0 < t.length := List.length_pos_iff.2 ht
  unfold find
  obtain ⟨f, hf⟩ : ∃ f, t.length = f + 1 := ⟨t.length - 1, by omega⟩
  rw [hf]
  conv => lhs; unfold findF
  rw [if_neg ht, if_pos h]
  exact findF_more _ _ _ (by simp; omega) (by simp)
theorem find_take {t : List UInt8} (h : sz t ≠ 0) : find t = t.take (sz t) :: find (t.drop (sz t)) := by
  have hl := sz_le t
  have ht : t ≠ [] := by rintro rfl; simp at hl; omega
  unfold find
  obtain ⟨f, hf⟩ : ∃ f, t.length = f + 1 := ⟨t.length - 1, by omega⟩
  rw [hf]
  conv => lhs; unfold findF
  rw [if_neg ht, if_neg h]
  rw [findF_more f (t.drop (sz t)).length _ (by simp; omega) (by simp)]
theorem find_short {t : List UInt8} (h : sz t = 0) : find t = find (t.drop 1) := by
  by_cases ht : t = []
  · subst ht; rfl
  · exact find_skip ht h
/-- are lists of texts one? -/
def teq (a b : List (List UInt8)) : Bool := a == b
theorem teq_true {a b : List (List UInt8)} : teq a b = true ↔ a = b := by simp [teq]
theorem teq_false {a b : List (List UInt8)} : teq a b = false ↔ a ≠ b := by simp [teq]
end Tk
end Go.Proofs.YtmdepmohfnficaaDoor


namespace Go.Proofs.YtmdepmohfnficaaDoor
set_option linter.unusedVariables false
set_option linter.unusedSimpArgs false
open Go.RowKit

theorem sv_one : ∀ x : List UInt8, (sv x).oneCell' = true := fun _ => rfl

/-! ### are lists of texts one? -/
set_option maxHeartbeats 400000 in
theorem texts_any (v u : Value) (l m : List (List UInt8)) (w : World) (hb : Sl sv w v l) (hc : Sl sv w u m) :
    Calls Tryd.prog 28 #[v, u] w fun e w' => e = .returned (.bool (Tk.teq l m)) ∧ Ext w w' := by
  have e0 := Ext.refl w
  obtain ⟨a, cap, rfl, hb⟩ := hb
  obtain ⟨b, cap', rfl, hc⟩ := hc
  have hlen := hb.len
  have hlen2 := hc.len
  by_cases hne : l.length = m.length
  · have hfl : ((l.length : Int) != (m.length : Int)) = false := by simp [hne]
    obtain ⟨L, hL⟩ : ∃ L, L = l.length := ⟨_, rfl⟩
    have hL2 : L = m.length := by omega
    rw [← hL] at hfl hlen ⊢
    go_enter Tryd.func28, Tryd.ntmps28
    go_wp2
    go_loopw [5] (fun i wr => ∃ k : Nat, k ≤ L ∧ i = .int .i64 k ∧ Ext w wr ∧ RowKit.Hid (∀ j, j < k → l[j]? = m[j]?)) (fun i _ => L - (intOf i).toNat)
    case atStart => exact ⟨0, Nat.zero_le _, rfl, e0, Lib.hid (fun j hj => by omega)⟩
    case round =>
      obtain ⟨k, hk, rfl, ek, hn⟩ := hrel
      by_cases hlt : k < L
      · obtain ⟨x, hx⟩ : ∃ x, l[k]? = some x := ⟨l[k]'(by omega), List.getElem?_eq_getElem (by omega)⟩
        obtain ⟨y, hy⟩ : ∃ y, m[k]? = some y := ⟨m[k]'(by omega), List.getElem?_eq_getElem (by omega)⟩
        obtain ⟨g, o, rfl, hcell⟩ := (hb.ext ek).cells k x hx
        obtain ⟨g', o', rfl, hcell'⟩ := (hc.ext ek).cells k y hy
        unfold sv at hcell hcell'
        cases hs : seq x y
        · have hfin : RowKit.Hid (Tk.teq l m = false) := Lib.hid (Tk.teq_false.2 fun e => seq_false.1 hs (by subst e; rw [hx] at hy; cases hy; rfl))
          clear hx hy
          go_wp2_with go_region
          go_ret
          exact ⟨by rw [hfin.out]; rfl, ek.drew⟩
        · have hn2 : RowKit.Hid (∀ j, j < k + 1 → l[j]? = m[j]?) := Lib.hid (by
            intro j hj
            by_cases hjk : j = k
            · subst hjk; rw [hx, hy, seq_true.1 hs]
            · exact hn.out j (by omega))
          clear hx hy
          go_wp2_with go_region
          go_roundw
          case rel => exact ⟨k + 1, by omega, by go_num, ek.drew, hn2⟩
          case measure => simp [intOf]; omega
      · have hfin : RowKit.Hid (Tk.teq l m = true) := Lib.hid (Tk.teq_true.2 (List.ext_getElem? fun j => by
          by_cases hj : j < k
          · exact hn.out j hj
          · rw [List.getElem?_eq_none (by omega), List.getElem?_eq_none (by omega)]))
        go_wp2
        go_ret
        exact ⟨by rw [hfin.out]; rfl, ek⟩
  · have hfin : RowKit.Hid (Tk.teq l m = false) := Lib.hid (Tk.teq_false.2 fun e => hne (by rw [e]))
    have hfl : ((l.length : Int) != (m.length : Int)) = true := by
      have : (l.length : Int) ≠ m.length := by omega
      simp [bne_iff_ne, this]
    clear hne
    go_enter Tryd.func28, Tryd.ntmps28
    go_wp2
    go_ret
    exact ⟨by rw [hfin.out]; rfl, e0⟩

/-! ### names within a text -/
theorem hl6 : (Tk.pres.tail).length = 6 := rfl
end Go.Proofs.YtmdepmohfnficaaDoor


namespace Go.Proofs.YtmdepmohfnficaaDoor
set_option linter.unusedVariables false
set_option linter.unusedSimpArgs false
open Go.RowKit

theorem preI_no {k : Int} (h : ¬ (1 ≤ k ∧ k ≤ 6)) : Tk.preI k = [] := by unfold Tk.preI Tk.okK; rw [decide_eq_false h]; rfl
theorem refPrefix_any (k : Int) (w : World) :
    Calls Tryd.prog 81 #[.int .i64 k] w fun e w' => e = .returned (.string (str (Tk.preI k))) ∧ w = w' := by
  by_cases h : 1 ≤ k ∧ k ≤ 6
  · have hc : k = 1 ∨ k = 2 ∨ k = 3 ∨ k = 4 ∨ k = 5 ∨ k = 6 := by omega
    rcases hc with rfl | rfl | rfl | rfl | rfl | rfl
    all_goals
      clear h
      go_enter Tryd.func81, Tryd.ntmps81
      go_wp2
      go_ret
      exact ⟨rfl, rfl⟩
  · rw [preI_no h]
    have h1 : (k == 1) = false := by rw [beq_eq_false_iff_ne]; omega
    have h2 : (k == 2) = false := by rw [beq_eq_false_iff_ne]; omega
    have h3 : (k == 3) = false := by rw [beq_eq_false_iff_ne]; omega
    have h4 : (k == 4) = false := by rw [beq_eq_false_iff_ne]; omega
    have h5 : (k == 5) = false := by rw [beq_eq_false_iff_ne]; omega
    have h6 : (k == 6) = false := by rw [beq_eq_false_iff_ne]; omega
    clear h
    go_enter Tryd.func81, Tryd.ntmps81
    go_wp2
    go_ret
    exact ⟨rfl, rfl⟩

theorem one_digit : ∀ d, d < 16 → sub [48, 49, 50, 51, 52, 53, 54, 55, 56, 57, 97, 98, 99, 100, 101, 102] d (d + 1) = [Tk.hexc d] := by decide
set_option maxHeartbeats 800000 in
theorem refName_any (K : Int) (x : BitVec 64) (w : World) :
    Calls Tryd.prog 53 #[.int .i64 K, .int .u64 (V x)] w fun e w' => e = .returned (.tuple #[.string (str (Tk.nameI K x.toNat)), .int .i64 (Tk.errI K)]) ∧ w = w' := by
  cases hk : Tk.okK K
  · have hp : seq (Tk.preI K) [] = true := by rw [Tk.preI_empty, hk]; rfl
    have hfin : RowKit.Hid (Tk.nameI K x.toNat = [] ∧ Tk.errI K = 8) := Lib.hid (by unfold Tk.nameI Tk.errI; rw [hk]; simp)
    go_enter Tryd.func53, Tryd.ntmps53
    go_wp2_with (go_at_call 81; refine (refPrefix_any _ _).mono ?_; rintro e w' ⟨rfl, rfl⟩)
    go_ret2
    exact ⟨by rw [hfin.out.1, hfin.out.2]; rfl, rfl⟩
  · have hp : seq (Tk.preI K) [] = false := by rw [Tk.preI_empty, hk]; rfl
    have hpl : (Tk.preI K).length ≤ 6 := by
      unfold Tk.preI; rw [hk]
      have := Tk.pre_length (Tk.okK_kind hk)
      simp; omega
    have hfin : RowKit.Hid (str (Tk.nameI K x.toNat) = str (Tk.preI K ++ 45 :: Tk.digs 16 x.toNat) ∧ Tk.errI K = 0) := Lib.hid (by unfold Tk.nameI Tk.errI Tk.preI Tk.name; rw [hk]; simp)
    go_enter Tryd.func53, Tryd.ntmps53
    go_wp2_with (go_at_call 81; refine (refPrefix_any _ _).mono ?_; rintro e w' ⟨rfl, rfl⟩)
    go_loop [1, 8, 9] (fun d s i => ∃ (k m : Nat), k ≤ 16 ∧ i = .int .i64 k ∧ d = .int .u64 m ∧ s = .string (str (Tk.digs k x.toNat)) ∧ m < 18446744073709551616 ∧ RowKit.Hid (m = x.toNat / 16 ^ k)) (fun _ _ i => 16 - (intOf i).toNat)
    case atStart => exact ⟨0, x.toNat, by omega, rfl, rfl, rfl, x.isLt, Lib.hid (by simp)⟩
    case round =>
      obtain ⟨k, m, hk, rfl, rfl, rfl, hm, hmx⟩ := hrel
      by_cases hlt : k < 16
      · have hsl : RowKit.Hid (str ([Tk.hexc (m % 16)] ++ Tk.digs k x.toNat) = str (Tk.digs (k + 1) x.toNat)) := Lib.hid (by rw [Tk.digs_cons, hmx.out]; rfl)
        have hdl := Tk.digs_length k x.toNat
        have h1 := Lib.hid (one_digit (m % 16) (Nat.mod_lt _ (by decide)))
        have hl1 : (sub [48, 49, 50, 51, 52, 53, 54, 55, 56, 57, 97, 98, 99, 100, 101, 102] (m % 16) (m % 16 + 1)).length ≤ 1 := by rw [h1.out]; exact Nat.le_refl _
        go_wp2
        go_round
        case rel => exact ⟨k + 1, m / 16, by omega, by go_num, by go_num, by rw [h1.out, hsl.out], by omega, Lib.hid (by rw [hmx.out, Nat.div_div_eq_div_mul, Nat.pow_succ])⟩
        case measure => simp [intOf]; omega
      · obtain rfl : k = 16 := by omega
        have hdl := Tk.digs_length 16 x.toNat
        go_wp2
        go_ret2
        exact ⟨by rw [hfin.out.1, hfin.out.2]; rfl, rfl⟩
end Go.Proofs.YtmdepmohfnficaaDoor


namespace Go.Proofs.YtmdepmohfnficaaDoor
set_option linter.unusedVariables false
set_option linter.unusedSimpArgs false
open Go.RowKit

theorem preI_nat {k : Nat} (h : Tk.isKind k) : Tk.preI (k : Int) = Tk.pre k := by unfold Tk.preI; rw [Tk.okK_of h]; rfl
theorem refPrefix_nat (k : Nat) (h : Tk.isKind k) (w : World) :
    Calls Tryd.prog 81 #[.int .i64 (k : Int)] w fun e w' => e = .returned (.string (str (Tk.pre k))) ∧ w = w' := by
  rw [← preI_nat h]; exact refPrefix_any _ w
theorem byteAt_app (a b : List UInt8) (i : Nat) : byteAt (a ++ b) (a.length + i) = byteAt b i := by
  unfold byteAt; simp [List.getD, List.getElem?_append_right]
theorem pk_some {s : List UInt8} {k n : Nat} (h : Tk.parse s = some (k, n)) : Tk.pk s = k ∧ Tk.pn s = BitVec.ofNat 64 n ∧ Tk.pok s = true := by
  simp [Tk.pk, Tk.pn, Tk.pok, h]
theorem pk_none {s : List UInt8} (h : Tk.parse s = none) : Tk.pk s = 0 ∧ Tk.pn s = 0#64 ∧ Tk.pok s = false := by
  simp [Tk.pk, Tk.pn, Tk.pok, h]
/-- of a text with a kind's prefix the draw alone is in question -/
theorem parse_head {k : Nat} (hk : Tk.isKind k) (r : List UInt8) (hr : r.length = 16) : Tk.parse (Tk.pre k ++ [45] ++ r) = (Tk.tell 0 r).map fun m => (k, m) := by
  have hc : Tk.cutAt (Tk.pre k ++ [45] ++ r) = (Tk.pre k, some r) := by
    rw [List.append_assoc]; exact Tk.cutAt_dash _ _ (Tk.pre_nodash hk)
  unfold Tk.parse Tk.drawOf Tk.cutR Tk.cutP
  rw [hc]
  simp only [Option.getD_some, if_pos hr, Tk.kindOf_pre hk]
  cases Tk.tell 0 r with
  | none => rfl
  | some m => simp; unfold Tk.isKind at hk; omega
theorem parse_form {s : List UInt8} {k m : Nat} (h : Tk.parse s = some (k, m)) : s = Tk.pre k ++ [45] ++ Tk.digs 16 m := ((Tk.parse_iff _ _ _).1 h).2.2
theorem hexv_lo {c : UInt8} (h1 : (48 : Int) ≤ c.toNat) (h2 : (c.toNat : Int) ≤ 57) : Tk.hexv c = some (c.toNat - 48) := by unfold Tk.hexv; rw [if_pos (by omega)]
theorem hexv_hi {c : UInt8} (h1 : (97 : Int) ≤ c.toNat) (h2 : (c.toNat : Int) ≤ 102) : Tk.hexv c = some (c.toNat - 87) := by unfold Tk.hexv; rw [if_neg (by omega), if_pos (by omega)]
theorem hexv_no {c : UInt8} (h1 : (c.toNat : Int) < 48 ∨ (57 < (c.toNat : Int) ∧ (c.toNat : Int) < 97) ∨ 102 < (c.toNat : Int)) : Tk.hexv c = none := by unfold Tk.hexv; rw [if_neg (by omega), if_neg (by omega)]

/-- how far the document's loop has come -/
structure Told (r : List UInt8) (i : Nat) (z : Int) (b : Bool) : Prop where
  yes : b = true → ∃ m : Nat, z = m ∧ Tk.tell 0 (r.take i) = some m
  no : b = false → Tk.tell 0 (r.take i) = none
theorem Told.next {r : List UInt8} {i m d : Nat} {c : UInt8} (h : Tk.tell 0 (r.take i) = some m) (hi : i < r.length) (hc : byteAt r i = c) (hd : Tk.hexv c = some d) (z : Int) (hz : z = 16 * (m : Int) + d) : Told r (i + 1) z true :=
  ⟨fun _ => ⟨16 * m + d, by omega, by rw [Tk.tell_step r i hi, h, hc, hd]; rfl⟩, nofun⟩
theorem Told.fall {r : List UInt8} {i : Nat} {c : UInt8} (hi : i < r.length) (hc : byteAt r i = c) (hd : Tk.hexv c = none) (z : Int) : Told r (i + 1) z false :=
  ⟨nofun, fun _ => by rw [Tk.tell_step r i hi, hc, hd]; cases Tk.tell 0 (r.take i) <;> rfl⟩
theorem Told.stay {r : List UInt8} {i : Nat} (h : Tk.tell 0 (r.take i) = none) (hi : i < r.length) (z : Int) : Told r (i + 1) z false :=
  ⟨nofun, fun _ => by rw [Tk.tell_step r i hi, h]; rfl⟩

set_option maxRecDepth 20000 in
set_option maxHeartbeats 4000000 in
theorem refParse_any (s : List UInt8) (_ : s.length ≤ 1099511627776) (w : World) :
    Calls Tryd.prog 89 #[.string (str s)] w fun e w' => e = .returned (.tuple #[.int .i64 (Tk.pk s), .int .u64 (V (Tk.pn s)), .bool (Tk.pok s)]) ∧ w = w' := by
  go_enter Tryd.func89, Tryd.ntmps89
  go_wp2
  go_loop [5] (fun kd => ∃ k : Nat, 1 ≤ k ∧ k ≤ 7 ∧ kd = .int .i64 k ∧ RowKit.Hid (∀ j, j < k → ∀ m, Tk.parse s ≠ some (j, m))) (fun kd => 7 - (intOf kd).toNat)
  case atStart => exact ⟨1, by omega, by omega, rfl, Lib.hid (fun j hj m h => by
    have := ((Tk.parse_iff _ _ _).1 h).1; unfold Tk.isKind at this; omega)⟩
  case round =>
    obtain ⟨k, hk1, hk, rfl, hn⟩ := hrel
    by_cases hlt : k < 7
    · have hkd : Tk.isKind k := ⟨hk1, by omega⟩
      have hP6 : (Tk.pre k).length ≤ 6 := by have := Tk.pre_length hkd; omega
      have hnext : (∀ m, Tk.parse s ≠ some (k, m)) → RowKit.Hid (∀ j, j < k + 1 → ∀ m, Tk.parse s ≠ some (j, m)) := fun h => Lib.hid fun j hj m => by
        by_cases e : j = k
        · subst e; exact h m
        · exact hn.out j (by omega) m
      have hform : RowKit.Hid (∀ m, Tk.parse s = some (k, m) → s = Tk.pre k ++ [45] ++ Tk.digs 16 m) := Lib.hid fun m h => parse_form h
      have hhead : RowKit.Hid (∀ r : List UInt8, r.length = 16 → Tk.parse (Tk.pre k ++ [45] ++ r) = (Tk.tell 0 r).map fun m => (k, m)) := Lib.hid fun r hr => parse_head hkd r hr
      have hrp := refPrefix_nat k hkd
      generalize Tk.pre k = P at *
      by_cases hl : s.length = P.length + 1 + 16
      · cases hq : seq (sub s 0 (P.length + 1)) (P ++ [45])
        · have hn2 := hnext fun m h => by
            have h2 := hform.out m h
            apply seq_false.1 hq
            rw [h2]
            unfold sub
            rw [List.drop_zero, List.take_append_of_le_length (by simp), List.take_of_length_le (by simp)]
          clear hnext hform hhead hkd
          go_wp2_with (go_at_call 81; refine (hrp _).mono ?_; rintro e w' ⟨rfl, rfl⟩)
          go_round
          case rel => exact ⟨k + 1, by omega, by omega, by go_num, hn2⟩
          case measure => simp [intOf]; omega
        · obtain ⟨r, hr, hsr⟩ : ∃ r : List UInt8, r.length = 16 ∧ s = P ++ [45] ++ r := by
            refine ⟨s.drop (P.length + 1), by rw [List.length_drop]; omega, ?_⟩
            have h := seq_true.1 hq
            unfold sub at h
            rw [List.drop_zero] at h
            rw [← h, List.take_append_drop]
          have hps := Lib.hid (hsr ▸ hhead.out r hr)
          have hby : RowKit.Hid (∀ i, byteAt s (P.length + 1 + i) = byteAt r i) := Lib.hid fun i => by
            have := byteAt_app (P ++ [45]) r i
            simp only [List.length_append, List.length_cons, List.length_nil, Nat.zero_add] at this
            rw [hsr]; exact this
          clear hsr hform hhead
          have hr2 := Lib.hid hr
          clear hr
          go_wp2_with (go_at_call 81; refine (hrp _).mono ?_; rintro e w' ⟨rfl, rfl⟩)
          go_loop [8, 9, 10] (fun dr rt ix => ∃ (i : Nat) (z : Int) (b : Bool), i ≤ 16 ∧ ix = .int .i64 ((P.length : Int) + 1 + (i : Int)) ∧ dr = .int .u64 z ∧ rt = .bool b ∧ RowKit.Hid (Told r i z b)) (fun _ _ ix => 16 + P.length + 1 - (intOf ix).toNat)
          case atStart => exact ⟨0, 0, true, by omega, by simp, rfl, rfl, Lib.hid ⟨fun _ => ⟨0, rfl, rfl⟩, nofun⟩⟩
          case round =>
            obtain ⟨i, z, b, hi, rfl, rfl, rfl, ht⟩ := hrel
            by_cases hi16 : i < 16
            · obtain ⟨c, hc⟩ : ∃ c, c = byteAt r i := ⟨_, rfl⟩
              have hcr := Lib.hid hc.symm
              have hcs : byteAt s (P.length + 1 + i) = c := by rw [hby.out]; exact hc.symm
              have hct : byteAt s ((P.length : Int) + 1 + (i : Int)).toNat = c := by
                rw [← hcs]; congr 1
              have hir := Lib.hid (show i < r.length by rw [hr2.out]; exact hi16)
              clear hc hby
              have hcase : ((c.toNat : Int) < 48) ∨ ((48 : Int) ≤ c.toNat ∧ (c.toNat : Int) ≤ 57) ∨ ((57 : Int) < c.toNat ∧ (c.toNat : Int) < 97) ∨ ((97 : Int) ≤ c.toNat ∧ (c.toNat : Int) ≤ 102) ∨ ((102 : Int) < c.toNat) := by omega
              have hcl := byte_lt c
              have hc0 : (0 : Int) ≤ c.toNat := by omega
              cases b
              · have hno := Lib.hid (ht.out.no rfl)
                rcases hcase with h1 | ⟨h1, h2⟩ | ⟨h1, h2⟩ | ⟨h1, h2⟩ | h1
                all_goals
                  go_wp2
                  go_round
                  case rel => exact ⟨i + 1, _, false, by omega, by go_num, rfl, rfl, Lib.hid (Told.stay hno.out hir.out _)⟩
                  case measure => simp [intOf]; omega
              · obtain ⟨m, rfl, hm⟩ := ht.out.yes rfl
                have hm60 : m < 2 ^ 60 := by
                  have hb := Tk.tell_lt _ _ hm
                  rw [List.length_take] at hb
                  exact Nat.lt_of_lt_of_le hb (Nat.le_trans (Nat.pow_le_pow_right (by decide) (show min i r.length ≤ 15 by omega)) (by decide))
                have hm60' : m < 1152921504606846976 := hm60
                clear hm60
                have hm2 := Lib.hid hm
                clear hm ht
                rcases hcase with h1 | ⟨h1, h2⟩ | ⟨h1, h2⟩ | ⟨h1, h2⟩ | h1
                case inl =>
                  have hx := Lib.hid (hexv_no (.inl h1))
                  go_wp2
                  go_round
                  case rel => exact ⟨i + 1, _, false, by omega, by go_num, rfl, rfl, Lib.hid (Told.fall hir.out hcr.out hx.out _)⟩
                  case measure => simp [intOf]; omega
                case inr.inl =>
                  have hx := Lib.hid (hexv_lo h1 h2)
                  go_wp2
                  go_round
                  case rel => exact ⟨i + 1, _, true, by omega, by go_num, rfl, rfl, Lib.hid (Told.next hm2.out hir.out hcr.out hx.out _ (by omega))⟩
                  case measure => simp [intOf]; omega
                case inr.inr.inl =>
                  have hx := Lib.hid (hexv_no (.inr (.inl ⟨h1, h2⟩)))
                  go_wp2
                  go_round
                  case rel => exact ⟨i + 1, _, false, by omega, by go_num, rfl, rfl, Lib.hid (Told.fall hir.out hcr.out hx.out _)⟩
                  case measure => simp [intOf]; omega
                case inr.inr.inr.inl =>
                  have hx := Lib.hid (hexv_hi h1 h2)
                  go_wp2
                  go_round
                  case rel => exact ⟨i + 1, _, true, by omega, by go_num, rfl, rfl, Lib.hid (Told.next hm2.out hir.out hcr.out hx.out _ (by omega))⟩
                  case measure => simp [intOf]; omega
                case inr.inr.inr.inr =>
                  have hx := Lib.hid (hexv_no (.inr (.inr h1)))
                  go_wp2
                  go_round
                  case rel => exact ⟨i + 1, _, false, by omega, by go_num, rfl, rfl, Lib.hid (Told.fall hir.out hcr.out hx.out _)⟩
                  case measure => simp [intOf]; omega
            · obtain rfl : i = 16 := by omega
              have hfull := Lib.hid (show r.take 16 = r from List.take_of_length_le (by rw [hr2.out]; exact Nat.le_refl _))
              cases b
              · have hn2 := hnext fun m h => by
                  rw [hps.out, ← hfull.out, ht.out.no rfl] at h
                  cases h
                clear hnext hby
                go_wp2
                go_round
                case rel => exact ⟨k + 1, by omega, by omega, by go_num, hn2⟩
                case measure => simp [intOf]; omega
              · obtain ⟨m, rfl, hm⟩ := ht.out.yes rfl
                rw [hfull.out] at hm
                have hpk := Lib.hid (pk_some (by rw [hps.out, hm]; rfl))
                have hm64 : V (BitVec.ofNat 64 m) = m := by
                  have hb := Tk.tell_lt _ _ hm
                  rw [hr2.out] at hb
                  unfold V; rw [BitVec.toNat_ofNat]
                  have : (16 : Nat) ^ 16 = 2 ^ 64 := by decide
                  omega
                have hm64' := Lib.hid hm64
                clear hnext hby hm ht hm64
                go_wp2
                go_ret3
                exact ⟨by rw [hpk.out.1, hpk.out.2.1, hpk.out.2.2, hm64'.out]; rfl, rfl⟩
      · have hn2 := hnext fun m h => by
          have := congrArg List.length (hform.out m h)
          simp [Tk.digs_length] at this
          omega
        have hb : ((s.length : Int) != (P.length : Int) + 1 + 16) = true := by
          have : (s.length : Int) ≠ (P.length : Int) + 1 + 16 := by omega
          simp [bne_iff_ne, this]
        clear hnext hform hhead hl hkd
        go_wp2_with (go_at_call 81; refine (hrp _).mono ?_; rintro e w' ⟨rfl, rfl⟩)
        go_round
        case rel => exact ⟨k + 1, by omega, by omega, by go_num, hn2⟩
        case measure => simp [intOf]; omega
    · obtain rfl : k = 7 := by omega
      have hp : Tk.parse s = none := by
        cases h : Tk.parse s with
        | none => rfl
        | some km =>
          obtain ⟨j, m⟩ := km
          have hj := ((Tk.parse_iff _ _ _).1 h).1
          unfold Tk.isKind at hj
          exact absurd h (hn.out j (by omega) m)
      have hpk := Lib.hid (pk_none hp)
      clear hp
      go_wp2
      go_ret3
      exact ⟨by rw [hpk.out.1, hpk.out.2.1, hpk.out.2.2]; rfl, rfl⟩
end Go.Proofs.YtmdepmohfnficaaDoor


namespace Go.Proofs.YtmdepmohfnficaaDoor
set_option linter.unusedVariables false
set_option linter.unusedSimpArgs false
open Go.RowKit

theorem range_step (m : Nat) : List.range' 18 (m + 1) = List.range' 18 m ++ [18 + m] := by
  rw [List.range'_concat]; simp
theorem acc_range (t : List UInt8) (m : Nat) (h : m = 6 ∨ t.length < 18 + m) : Tk.acc t (List.range' 18 m) = Tk.sz t :=
  Tk.acc_full _ _ fun n hn => by
    have h1 := ((Tk.hits_iff _ _).1 hn).1
    have h2 := Tk.hits_sizes hn
    rw [List.mem_range'_1]
    omega
end Go.Proofs.YtmdepmohfnficaaDoor


namespace Go.Proofs.YtmdepmohfnficaaDoor
set_option linter.unusedVariables false
set_option linter.unusedSimpArgs false
open Go.RowKit

def exA : List UInt8 := [83, 84, 45, 48, 48, 48, 48, 48, 48, 48, 48, 48, 48, 48, 48, 48, 48, 102, 102]
def exB : List UInt8 := [80, 71, 84, 45, 48, 48, 48, 48, 48, 48, 48, 48, 48, 48, 48, 48, 48, 48, 48, 49]
def exC : List UInt8 := [120, 61, 80, 71, 84, 73, 79, 85, 45, 48, 48, 48, 48, 48, 48, 48, 48, 48, 48, 48, 48, 48, 48, 48, 49, 38, 83, 84, 45, 49]
def exD : List UInt8 := [80, 71, 84, 73, 79, 85, 45, 48, 48, 48, 48, 48, 48, 48, 48, 48, 48, 48, 48, 48, 48, 48, 49]
theorem exA_eq : seq (Tk.nameI 2 (255#64).toNat) exA = true := by decide +kernel
theorem exA_e : Tk.errI 2 = 0 := by decide
theorem exB_k : Tk.pk exB = 4 := by decide +kernel
theorem exB_n : V (Tk.pn exB) = 1 := by decide +kernel
theorem exB_o : Tk.pok exB = true := by decide +kernel
theorem exC_f : Tk.teq (Tk.find exC) [exD] = true := by decide +kernel
theorem name_len (k : Int) (n : Nat) : (Tk.nameI k n).length ≤ 23 := by
  unfold Tk.nameI
  cases h : Tk.okK k
  · simp
  · have := Tk.pre_length (Tk.okK_kind h)
    simp [Tk.name_length]; omega
theorem parse_nameI {k : Int} (h : Tk.okK k = true) (x : BitVec 64) : Tk.pok (Tk.nameI k x.toNat) = true ∧ Tk.pk (Tk.nameI k x.toNat) = k ∧ Tk.pn (Tk.nameI k x.toNat) = x := by
  have hk := Tk.okK_kind h
  have e : Tk.nameI k x.toNat = Tk.name k.toNat x.toNat := by unfold Tk.nameI; rw [h]; rfl
  rw [e]
  obtain ⟨h1, h2, h3⟩ := pk_some (Tk.parse_name hk x.isLt)
  refine ⟨h3, ?_, ?_⟩
  · rw [h1]; unfold Tk.isKind at hk; omega
  · rw [h2]; simp
theorem back_name {s : List UInt8} (h : Tk.pok s = true) : Tk.nameI (Tk.pk s) (Tk.pn s).toNat = s ∧ Tk.errI (Tk.pk s) = 0 := by
  obtain ⟨k, n, hn⟩ := (Tk.pok_iff s).1 h
  obtain ⟨h1, h2, _⟩ := pk_some ((Tk.parse_iff _ _ _).2 hn)
  obtain ⟨hk, hlt, e⟩ := hn
  rw [h1, h2]
  unfold Tk.nameI Tk.errI
  rw [Tk.okK_of hk]
  refine ⟨?_, rfl⟩
  rw [if_pos rfl, BitVec.toNat_ofNat, Nat.mod_eq_of_lt hlt, e]; rfl
theorem pok_no {s : List UInt8} (h : Tk.pok s = false) : Tk.pk s = 0 ∧ V (Tk.pn s) = 0 := by
  unfold Tk.pok at h
  have h0 : Tk.parse s = none := by simpa using h
  exact ⟨(pk_none h0).1, by rw [(pk_none h0).2.1]; rfl⟩

attribute [local irreducible] Tk.nameI Tk.pk Tk.pn Tk.pok Tk.errI Tk.find isI
end Go.Proofs.YtmdepmohfnficaaDoor


