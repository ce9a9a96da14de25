/- Plain facts on tickets' names, second part: how the program comes to them. -/
import Derived.Test.YtmdepmohfnficaaDoorTicketMath
import Derived.Test.YtmdepmohfnficaaDoorStr
import Derived.Lib.Bytealg
namespace Go.Proofs.YtmdepmohfnficaaDoor
namespace Tk

/-! ### a name's digits, laid from behind -/
theorem digs_cons : ∀ k n, digs (k + 1) n = hexc (n / 16 ^ k % 16) :: digs k n
  | 0, n => by simp [digs]
  | k + 1, n => by
    rw [digs, digs_cons k (n / 16)]
    have e : n / 16 / 16 ^ k = n / 16 ^ (k + 1) := by rw [Nat.div_div_eq_div_mul, Nat.pow_succ, Nat.mul_comm]
    rw [e]
    rfl
/-- so many digits lie at the end, 0s ahead -/
def fill (k n : Nat) : List UInt8 := List.replicate (16 - k) 0 ++ digs k n
theorem fill_length (k n : Nat) (h : k ≤ 16) : (fill k n).length = 16 := by simp [fill, digs_length]; omega
theorem fill_set (k n : Nat) (h : k < 16) : (fill k n).set (15 - k) (hexc (n / 16 ^ k % 16)) = fill (k + 1) n := by
  unfold fill
  rw [digs_cons]
  have e : 16 - k = (15 - k) + 1 := by omega
  rw [e, List.replicate_succ', List.append_assoc, List.set_append_right _ _ (by simp)]
  simp only [List.length_replicate, Nat.sub_self, List.singleton_append, List.set_cons_zero]
  have e2 : 16 - (k + 1) = 15 - k := by omega
  rw [e2]
theorem fill_end (n : Nat) : fill 16 n = digs 16 n := by simp [fill]

/-! ### kinds as Go's numbers -/
def okK (k : Int) : Bool := decide (1 ≤ k ∧ k ≤ 6)
def preI (k : Int) : List UInt8 := if okK k then pre k.toNat else []
def nameI (k : Int) (n : Nat) : List UInt8 := if okK k then name k.toNat n else []
def errI (k : Int) : Int := if okK k then 0 else 8
theorem okK_kind {k : Int} (h : okK k = true) : isKind k.toNat := by unfold okK at h; unfold isKind; have := of_decide_eq_true h; omega
theorem okK_of {k : Nat} (h : isKind k) : okK (k : Int) = true := by unfold okK; unfold isKind at h; exact decide_eq_true (by omega)
theorem okK_of_toNat {k : Int} (h : isKind k.toNat) : okK k = true := by unfold okK; unfold isKind at h; exact decide_eq_true (by omega)
theorem preI_empty (k : Int) : seq (preI k) [] = !okK k := by
  cases h : okK k with
  | false => simp [preI, h, seq]
  | true =>
    have := pre_ne (okK_kind h)
    simp [preI, h, seq, this]

/-! ### where a byte is -/
theorem ixHex : ∀ n, n < 256 → Lib.indexByte [48, 49, 50, 51, 52, 53, 54, 55, 56, 57, 97, 98, 99, 100, 101, 102] (UInt8.ofNat n) = (match hexv (UInt8.ofNat n) with | some d => (d : Int) | none => -1) := by decide +kernel
/-- a byte's digit as a number, -1 where it has none -/
def hexI (c : UInt8) : Int := match hexv c with | some d => (d : Int) | none => -1
theorem ix_hex (c : UInt8) : Lib.indexByte [48, 49, 50, 51, 52, 53, 54, 55, 56, 57, 97, 98, 99, 100, 101, 102] c = hexI c := by
  have := ixHex c.toNat c.toNat_lt
  rw [UInt8.ofNat_toNat] at this
  exact this
theorem hexcs : ∀ d, d < 16 → ([48, 49, 50, 51, 52, 53, 54, 55, 56, 57, 97, 98, 99, 100, 101, 102] : List UInt8).getD d 0 = hexc d := by decide
theorem cut_ix : ∀ (s : List UInt8), (Lib.indexByte s 45 = -1 ∧ cutAt s = (s, none)) ∨ ∃ i : Nat, i < s.length ∧ Lib.indexByte s 45 = i ∧ cutAt s = (s.take i, some (s.drop (i + 1)))
  | [] => .inl ⟨rfl, rfl⟩
  | c :: l => by
    unfold Lib.indexByte cutAt
    by_cases h : c = 45
    · refine .inr ⟨0, by simp, by simp [h], by simp [h]⟩
    · have hb : (c == 45) = false := by simpa using h
      rcases cut_ix l with ⟨h1, h2⟩ | ⟨i, hi, h1, h2⟩
      · exact .inl ⟨by simp [hb, h1], by simp [h, h2]⟩
      · refine .inr ⟨i + 1, by simp; omega, ?_, by simp [h, h2]⟩
        have : ((i : Int) == -1) = false := by rw [beq_eq_false_iff_ne]; omega
        simp [hb, h1, this]
def cutP (s : List UInt8) : List UInt8 := (cutAt s).1
def cutR (s : List UInt8) : List UInt8 := (cutAt s).2.getD []
def cutB (s : List UInt8) : Bool := (cutAt s).2.isSome

/-! ### what digits tell -/
def drawOf (r : List UInt8) : Option Nat := if r.length = 16 then tell 0 r else none
def dn (r : List UInt8) : BitVec 64 := BitVec.ofNat 64 ((drawOf r).getD 0)
def dok (r : List UInt8) : Bool := (drawOf r).isSome
theorem tell_step (l : List UInt8) (k : Nat) (h : k < l.length) (n : Nat) : tell n (l.take (k + 1)) = (tell n (l.take k)).bind fun m => (hexv (byteAt l k)).map fun d => 16 * m + d := by
  rw [List.take_succ_eq_append_getElem h, tell_append]
  congr 1
  funext m
  have e : l[k] = byteAt l k := by simp [byteAt, List.getD, h]
  rw [e]
  simp only [tell]
  cases hexv (byteAt l k) <;> rfl
theorem tell_lt (l : List UInt8) (m : Nat) (h : tell 0 l = some m) : m < 16 ^ l.length := by
  have h2 := (digs_tell l 0 m h).2
  exact Nat.lt_of_div_eq_zero (Nat.pow_pos (by decide)) h2
theorem tell_cut (l : List UInt8) (k : Nat) (h : k < l.length) (hn : hexv (byteAt l k) = none) (n : Nat) : tell n l = none := by
  have e : l = l.take (k + 1) ++ l.drop (k + 1) := (List.take_append_drop _ _).symm
  rw [e, tell_append, tell_step l k h, hn]
  cases tell n (l.take k) <;> rfl
theorem hexv_lt {c : UInt8} {d : Nat} (h : hexv c = some d) : d < 16 := (hexc_hexv c d h).2
theorem or_step (x : BitVec 64) (d : Nat) (hx : x.toNat < 2 ^ 60) (hd : d < 16) : ((x <<< 4) ||| BitVec.ofInt 64 (d : Int)).toNat = 16 * x.toNat + d := by
  rw [BitVec.toNat_or, BitVec.toNat_shiftLeft, BitVec.ofInt_natCast, BitVec.toNat_ofNat]
  have h1 : x.toNat <<< 4 % 2 ^ 64 = x.toNat <<< 4 := by rw [Nat.shiftLeft_eq]; omega
  have h2 : d % 2 ^ 64 = d := by omega
  rw [h1, h2, ← Nat.shiftLeft_add_eq_or_of_lt (by omega), Nat.shiftLeft_eq]
  omega

/-! ### what a text is the name of -/
def ixOf : List (List UInt8) → List UInt8 → Int
  | [], _ => -1
  | a :: l, p => if seq p a then 0 else if ixOf l p = -1 then -1 else ixOf l p + 1
theorem ixOf_ge : ∀ l p, -1 ≤ ixOf l p
  | [], _ => by simp [ixOf]
  | a :: l, p => by unfold ixOf; have := ixOf_ge l p; split <;> (try split) <;> omega
theorem ixOf_lt : ∀ (l : List (List UInt8)) p, ixOf l p < l.length
  | [], _ => by simp [ixOf]
  | a :: l, p => by unfold ixOf; have := ixOf_lt l p; split <;> (try split) <;> simp <;> omega
theorem ixOf_skip : ∀ (l : List (List UInt8)) (p : List UInt8) (k : Nat), (∀ j, j < k → ∀ a, l[j]? = some a → p ≠ a) → ∀ a, l[k]? = some a → p = a → ixOf l p = k
  | [], p, k, _, a, h, _ => by simp at h
  | b :: l, p, 0, _, a, h, e => by
    have : b = a := by simpa using h
    subst this; subst e
    simp [ixOf, seq_self]
  | b :: l, p, k + 1, hj, a, h, e => by
    have h0 : seq p b = false := seq_false.2 (hj 0 (by omega) b (by simp))
    have ih := ixOf_skip l p k (fun j hjk a ha => hj (j + 1) (by omega) a (by simpa using ha)) a (by simpa using h) e
    unfold ixOf
    rw [h0, ih, if_neg (by simp), if_neg (by omega)]
    omega
theorem ixOf_none : ∀ (l : List (List UInt8)) (p : List UInt8), (∀ a ∈ l, p ≠ a) → ixOf l p = -1
  | [], _, _ => rfl
  | a :: l, p, h => by
    unfold ixOf
    rw [seq_false.2 (h a (by simp)), ixOf_none l p fun b hb => h b (by simp [hb])]
    simp
def pres : List (List UInt8) := [pre 0, pre 1, pre 2, pre 3, pre 4, pre 5, pre 6]
def kindOf (p : List UInt8) : Int := ixOf pres p
theorem kindOf_pre {k : Nat} (h : isKind k) : kindOf (pre k) = k := by
  rcases kind_cases h with rfl | rfl | rfl | rfl | rfl | rfl <;> decide
theorem kindOf_some {p : List UInt8} (h : 1 ≤ kindOf p) : isKind (kindOf p).toNat ∧ p = pre (kindOf p).toNat := by
  by_cases hm : ∃ k, isKind k ∧ p = pre k
  · obtain ⟨k, hk, rfl⟩ := hm
    rw [kindOf_pre hk]; exact ⟨by simpa using hk, by simp⟩
  · exfalso
    unfold kindOf at h
    by_cases h0 : p = []
    · subst h0; revert h; decide
    · rw [ixOf_none pres p fun a ha e => ?_] at h
      · omega
      · simp only [pres, List.mem_cons, List.not_mem_nil, or_false] at ha
        rcases ha with rfl | rfl | rfl | rfl | rfl | rfl | rfl
        · exact h0 e
        all_goals exact hm ⟨_, by unfold isKind; omega, e⟩
def parse (s : List UInt8) : Option (Nat × Nat) := match drawOf (cutR s) with
  | some n => if kindOf (cutP s) < 1 then none else some ((kindOf (cutP s)).toNat, n)
  | none => none
theorem parse_iff (s : List UInt8) (k n : Nat) : parse s = some (k, n) ↔ IsName s k n := by
  rw [isName_iff]
  unfold parse drawOf cutR cutP
  constructor
  · intro h
    cases hc : cutAt s with
    | mk p r =>
      rw [hc] at h
      cases r with
      | none => simp at h
      | some r =>
        simp only [Option.getD_some] at h
        by_cases hl : r.length = 16
        · rw [if_pos hl] at h
          cases ht : tell 0 r with
          | none => rw [ht] at h; cases h
          | some m =>
            rw [ht] at h
            dsimp only at h
            split at h
            · cases h
            · rename_i hk
              obtain ⟨h1, h2⟩ := kindOf_some (p := p) (by omega)
              simp only [Option.some.injEq, Prod.mk.injEq] at h
              obtain ⟨rfl, rfl⟩ := h
              exact ⟨h1, r, by rw [← h2], hl, ht⟩
        · rw [if_neg hl] at h; cases h
  · rintro ⟨hk, r, hc, hl, ht⟩
    rw [hc]
    simp only [Option.getD_some, if_pos hl, ht, kindOf_pre hk]
    rw [if_neg (by unfold isKind at hk; omega)]
    simp
theorem parse_name {k n : Nat} (hk : isKind k) (hn : n < 2 ^ 64) : parse (name k n) = some (k, n) := (parse_iff _ _ _).2 ⟨hk, hn, rfl⟩
def pok (s : List UInt8) : Bool := (parse s).isSome
def pk (s : List UInt8) : Int := match parse s with | some (k, _) => k | none => 0
def pn (s : List UInt8) : BitVec 64 := match parse s with | some (_, n) => BitVec.ofNat 64 n | none => 0#64
theorem parse_no1 {s : List UInt8} (h : dok (cutR s) = false) : pok s = false ∧ pk s = 0 ∧ pn s = 0#64 := by
  unfold dok at h
  have : drawOf (cutR s) = none := by simpa using h
  simp [pok, pk, pn, parse, this]
theorem parse_no2 {s : List UInt8} (h : kindOf (cutP s) < 1) : pok s = false ∧ pk s = 0 ∧ pn s = 0#64 := by
  have : parse s = none := by unfold parse; cases drawOf (cutR s) <;> simp [h]
  simp [pok, pk, pn, this]
theorem parse_yes {s : List UInt8} (h : dok (cutR s) = true) (h2 : ¬ kindOf (cutP s) < 1) : pok s = true ∧ pk s = kindOf (cutP s) ∧ pn s = dn (cutR s) := by
  unfold dok at h
  obtain ⟨n, hn⟩ := Option.isSome_iff_exists.1 h
  have : parse s = some ((kindOf (cutP s)).toNat, n) := by unfold parse; rw [hn]; simp [h2]
  simp [pok, pk, pn, this, dn, hn]
  omega
end Tk
end Go.Proofs.YtmdepmohfnficaaDoor
