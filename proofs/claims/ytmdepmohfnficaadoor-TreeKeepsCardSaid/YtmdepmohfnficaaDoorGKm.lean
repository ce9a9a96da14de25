/- Keys and values, plain: changes as bytes, and back. -/
import Derived.Test.YtmdepmohfnficaaDoorBase
namespace Go.Proofs.YtmdepmohfnficaaDoor
set_option linter.unusedVariables false
set_option linter.unusedSimpArgs false

namespace Kv
structure Ch where
  k : List UInt8
  v : List UInt8
  g : Bool
theorem Ch.ext' {a b : Ch} (h1 : a.k = b.k) (h2 : a.v = b.v) (h3 : a.g = b.g) : a = b := by cases a; cases b; simp_all
/-- can it be? -/
def rightC (c : Ch) : Bool := decide (1 ≤ c.k.length) && (decide (c.k.length ≤ 64) && (decide (c.v.length ≤ 300) && (!c.g || c.v.isEmpty)))
theorem right_parts {c : Ch} (h : rightC c = true) : 1 ≤ c.k.length ∧ c.k.length ≤ 64 ∧ c.v.length ≤ 300 ∧ (c.g = true → c.v = []) := by
  unfold rightC at h
  simp only [Bool.and_eq_true, decide_eq_true_eq, Bool.or_eq_true, Bool.not_eq_true', List.isEmpty_iff] at h
  exact ⟨h.1, h.2.1, h.2.2.1, fun hg => h.2.2.2.elim (fun h => by rw [h] at hg; cases hg) id⟩
theorem right_of {c : Ch} (h1 : 1 ≤ c.k.length) (h2 : c.k.length ≤ 64) (h3 : c.v.length ≤ 300) (h4 : c.g = true → c.v = []) : rightC c = true := by
  unfold rightC
  simp only [Bool.and_eq_true, decide_eq_true_eq, Bool.or_eq_true, Bool.not_eq_true', List.isEmpty_iff]
  refine ⟨h1, h2, h3, ?_⟩
  cases hg : c.g
  · exact .inl rfl
  · exact .inr (h4 hg)
/-- the two bytes of a value's size -/
def sz2 (c : Ch) : List UInt8 := if c.g then [255, 255] else [UInt8.ofNat (c.v.length / 256), UInt8.ofNat (c.v.length % 256)]
def oneC (c : Ch) : List UInt8 := [UInt8.ofNat c.k.length] ++ c.k ++ sz2 c ++ c.v
theorem sz2_length (c : Ch) : (sz2 c).length = 2 := by unfold sz2; split <;> rfl
theorem one_length (c : Ch) : (oneC c).length = 3 + c.k.length + c.v.length := by
  unfold oneC
  rw [List.length_append, List.length_append, List.length_append, sz2_length]
  simp; omega
def encB (l : List Ch) : List UInt8 := l.flatMap oneC
def encE (l : List Ch) : Int := if l.all rightC then (if (encB l).length ≤ 4000 then 0 else 2) else 1
def encO (l : List Ch) : List UInt8 := if encE l = 0 then encB l else []
theorem encB_append (a b : List Ch) : encB (a ++ b) = encB a ++ encB b := List.flatMap_append
theorem encE_zero {l : List Ch} : encE l = 0 ↔ l.all rightC = true ∧ (encB l).length ≤ 4000 := by
  unfold encE
  cases h : l.all rightC
  · simp
  · by_cases h2 : (encB l).length ≤ 4000
    · simp [h2]
    · simp [h2]
theorem encE_bad {l : List Ch} {c : Ch} (h : c ∈ l) (hc : rightC c = false) : encE l = 1 := by
  unfold encE
  have : l.all rightC = false := by rw [List.all_eq_false]; exact ⟨c, h, by simp [hc]⟩
  rw [this]; rfl
theorem encE_cases (l : List Ch) : encE l = 0 ∨ encE l = 1 ∨ encE l = 2 := by
  unfold encE
  split
  · split
    · exact .inl rfl
    · exact .inr (.inr rfl)
  · exact .inr (.inl rfl)
/-- a change taken off -/
def nextC : List UInt8 → Option (Ch × List UInt8)
  | [] => none
  | n :: r => if r.length < n.toNat then none else
    match r.drop n.toNat with
    | h :: l :: t => if 256 * h.toNat + l.toNat = 65535 then some (⟨r.take n.toNat, [], true⟩, t) else
      if t.length < 256 * h.toNat + l.toNat then none else some (⟨r.take n.toNat, t.take (256 * h.toNat + l.toNat), false⟩, t.drop (256 * h.toNat + l.toNat))
    | _ => none
theorem next_cons (n : UInt8) (r : List UInt8) : nextC (n :: r) = if r.length < n.toNat then none else
    match r.drop n.toNat with
    | h :: l :: t => if 256 * h.toNat + l.toNat = 65535 then some (⟨r.take n.toNat, [], true⟩, t) else
      if t.length < 256 * h.toNat + l.toNat then none else some (⟨r.take n.toNat, t.take (256 * h.toNat + l.toNat), false⟩, t.drop (256 * h.toNat + l.toNat))
    | _ => none := rfl
/-- what a change that was taken off says of the bytes -/
theorem next_some {n : UInt8} {r t : List UInt8} {c : Ch} (h : nextC (n :: r) = some (c, t)) : n.toNat ≤ r.length ∧ ∃ hh l u, r.drop n.toNat = hh :: l :: u ∧
    ((256 * hh.toNat + l.toNat = 65535 ∧ c = ⟨r.take n.toNat, [], true⟩ ∧ t = u) ∨ (256 * hh.toNat + l.toNat ≠ 65535 ∧ 256 * hh.toNat + l.toNat ≤ u.length ∧ c = ⟨r.take n.toNat, u.take (256 * hh.toNat + l.toNat), false⟩ ∧ t = u.drop (256 * hh.toNat + l.toNat))) := by
  rw [next_cons] at h
  by_cases h1 : r.length < n.toNat
  · rw [if_pos h1] at h; cases h
  · rw [if_neg h1] at h
    refine ⟨by omega, ?_⟩
    match hd : r.drop n.toNat with
    | [] => rw [hd] at h; cases h
    | [_] => rw [hd] at h; cases h
    | hh :: l :: u =>
      rw [hd] at h
      refine ⟨hh, l, u, rfl, ?_⟩
      simp only at h
      by_cases h2 : 256 * hh.toNat + l.toNat = 65535
      · rw [if_pos h2] at h; cases h; exact .inl ⟨h2, rfl, rfl⟩
      · rw [if_neg h2] at h
        by_cases h3 : u.length < 256 * hh.toNat + l.toNat
        · rw [if_pos h3] at h; cases h
        · rw [if_neg h3] at h; cases h; exact .inr ⟨h2, by omega, rfl, rfl⟩
theorem next_less {b : List UInt8} {c : Ch} {r : List UInt8} (h : nextC b = some (c, r)) : r.length < b.length := by
  cases b with
  | nil => cases h
  | cons n b =>
    obtain ⟨h1, hh, l, u, hd, h2⟩ := next_some h
    have hl := congrArg List.length hd
    simp only [List.length_drop, List.length_cons] at hl
    rcases h2 with ⟨-, -, rfl⟩ | ⟨-, -, -, rfl⟩
    · simp only [List.length_cons]; omega
    · simp only [List.length_drop, List.length_cons]; omega
/-- all changes of bytes -/
def dec : Nat → List UInt8 → Option (List Ch)
  | _, [] => some []
  | 0, _ :: _ => none
  | f + 1, b => match nextC b with
    | none => none
    | some (c, r) => if rightC c then (dec f r).map (c :: ·) else none
theorem dec_nil (f : Nat) : dec f [] = some [] := by cases f <;> rfl
theorem dec_succ (f : Nat) (x : UInt8) (b : List UInt8) : dec (f + 1) (x :: b) = match nextC (x :: b) with
    | none => none
    | some (c, r) => if rightC c then (dec f r).map (c :: ·) else none := rfl
theorem dec_fuel : ∀ (n : Nat) (b : List UInt8) (f f' : Nat), b.length ≤ n → b.length ≤ f → b.length ≤ f' → dec f b = dec f' b
  | n, [], f, f', _, _, _ => by rw [dec_nil, dec_nil]
  | n, x :: b, f, f', hn, hf, hf' => by
    simp only [List.length_cons] at hn hf hf'
    obtain ⟨f, rfl⟩ : ∃ k, f = k + 1 := ⟨f - 1, by omega⟩
    obtain ⟨f', rfl⟩ : ∃ k, f' = k + 1 := ⟨f' - 1, by omega⟩
    rw [dec_succ, dec_succ]
    cases h : nextC (x :: b) with
    | none => rfl
    | some p =>
      obtain ⟨c, r⟩ := p
      have hl := next_less h
      simp only [List.length_cons] at hl
      have ih := dec_fuel (n - 1) r f f' (by omega) (by omega) (by omega)
      simp only [ih]
def decA (b : List UInt8) : Option (List Ch) := dec b.length b
theorem decA_nil : decA [] = some [] := rfl
theorem decA_none {b : List UInt8} (hb : b ≠ []) (h : nextC b = none) : decA b = none := by
  cases b with
  | nil => exact absurd rfl hb
  | cons x b => unfold decA; rw [List.length_cons, dec_succ, h]
theorem decA_bad {b r : List UInt8} {c : Ch} (h : nextC b = some (c, r)) (hc : rightC c = false) : decA b = none := by
  cases b with
  | nil => cases h
  | cons x b => unfold decA; rw [List.length_cons, dec_succ, h]; simp [hc]
theorem decA_step {b r : List UInt8} {c : Ch} (h : nextC b = some (c, r)) (hc : rightC c = true) : decA b = (decA r).map (c :: ·) := by
  have hl := next_less h
  cases b with
  | nil => cases h
  | cons x b =>
    unfold decA
    rw [List.length_cons, dec_succ, h]
    simp only [hc, if_true]
    rw [dec_fuel b.length r b.length r.length (by simp only [List.length_cons] at hl; omega) (by simp only [List.length_cons] at hl; omega) (Nat.le_refl _)]
def decL (b : List UInt8) : Option (List Ch) := if 4000 < b.length then none else decA b
/-- a change's bytes, read -/
theorem next_one {c : Ch} (h : rightC c = true) (t : List UInt8) : nextC (oneC c ++ t) = some (c, t) := by
  obtain ⟨h1, h2, h3, h4⟩ := right_parts h
  have e : oneC c ++ t = UInt8.ofNat c.k.length :: (c.k ++ (sz2 c ++ (c.v ++ t))) := by unfold oneC; simp [List.append_assoc]
  have hn : (UInt8.ofNat c.k.length).toNat = c.k.length := by rw [UInt8.toNat_ofNat']; omega
  rw [e, next_cons, hn, if_neg (by rw [List.length_append]; omega), List.drop_left, List.take_left]
  obtain ⟨k, v, g⟩ := c
  simp only at *
  cases g
  · have e1 : (UInt8.ofNat (v.length / 256)).toNat = v.length / 256 := by rw [UInt8.toNat_ofNat']; omega
    have e2 : (UInt8.ofNat (v.length % 256)).toNat = v.length % 256 := by rw [UInt8.toNat_ofNat']; omega
    have e3 : 256 * (v.length / 256) + v.length % 256 = v.length := by omega
    show (if 256 * (UInt8.ofNat (v.length / 256)).toNat + (UInt8.ofNat (v.length % 256)).toNat = 65535 then _ else _) = _
    rw [e1, e2, e3, if_neg (by omega)]
    show (if (v ++ t).length < v.length then none else some ((⟨k, (v ++ t).take v.length, false⟩, (v ++ t).drop v.length) : Ch × List UInt8)) = _
    rw [if_neg (by rw [List.length_append]; omega), List.take_left, List.drop_left]
  · rw [h4 rfl]
    show (if 256 * (255 : UInt8).toNat + (255 : UInt8).toNat = 65535 then _ else _) = _
    rw [if_pos (by decide)]; rfl
theorem one_next {b t : List UInt8} {c : Ch} (h : nextC b = some (c, t)) : b = oneC c ++ t := by
  cases b with
  | nil => cases h
  | cons n r =>
    obtain ⟨h1, hh, l, u, hd, h2⟩ := next_some h
    have hr : r = r.take n.toNat ++ hh :: l :: u := by rw [← hd, List.take_append_drop]
    have hk : (r.take n.toNat).length = n.toNat := by rw [List.length_take]; omega
    have hn : UInt8.ofNat (r.take n.toNat).length = n := by rw [hk]; simp
    have hl := l.toNat_lt
    have hl2 := hh.toNat_lt
    rcases h2 with ⟨hs, rfl, rfl⟩ | ⟨hs, hle, rfl, rfl⟩
    · have ha : hh = 255 := by apply UInt8.toNat_inj.1; show hh.toNat = 255; omega
      have hb : l = 255 := by apply UInt8.toNat_inj.1; show l.toNat = 255; omega
      subst ha hb
      unfold oneC sz2
      simp only [hn, if_true, List.append_nil]
      rw [show ([n] ++ r.take n.toNat ++ [255, 255] ++ t : List UInt8) = n :: (r.take n.toNat ++ 255 :: 255 :: t) by simp]
      rw [← hr]
    · have hv : (u.take (256 * hh.toNat + l.toNat)).length = 256 * hh.toNat + l.toNat := by rw [List.length_take]; omega
      have e1 : UInt8.ofNat ((u.take (256 * hh.toNat + l.toNat)).length / 256) = hh := by rw [hv, show (256 * hh.toNat + l.toNat) / 256 = hh.toNat by omega]; simp
      have e2 : UInt8.ofNat ((u.take (256 * hh.toNat + l.toNat)).length % 256) = l := by rw [hv, show (256 * hh.toNat + l.toNat) % 256 = l.toNat by omega]; simp
      unfold oneC sz2
      simp only [hn, Bool.false_eq_true, if_false, e1, e2]
      rw [show ([n] ++ r.take n.toNat ++ [hh, l] ++ u.take (256 * hh.toNat + l.toNat) ++ u.drop (256 * hh.toNat + l.toNat) : List UInt8) = n :: (r.take n.toNat ++ hh :: l :: (u.take (256 * hh.toNat + l.toNat) ++ u.drop (256 * hh.toNat + l.toNat))) by simp]
      rw [List.take_append_drop, ← hr]
theorem one_ne (c : Ch) (t : List UInt8) : oneC c ++ t ≠ [] := by unfold oneC; simp
theorem dec_enc : ∀ (l : List Ch) (t : List UInt8), l.all rightC = true → decA (encB l ++ t) = (decA t).map (l ++ ·)
  | [], t, _ => by show decA t = _; cases decA t <;> rfl
  | c :: l, t, h => by
    rw [List.all_cons, Bool.and_eq_true] at h
    have e : encB (c :: l) ++ t = oneC c ++ (encB l ++ t) := by show (oneC c ++ encB l) ++ t = _; rw [List.append_assoc]
    rw [e, decA_step (next_one h.1 _) h.1, dec_enc l t h.2]
    cases decA t <;> rfl
theorem dec_encB {l : List Ch} (h : l.all rightC = true) : decA (encB l) = some l := by
  have := dec_enc l [] h
  rw [List.append_nil, decA_nil] at this
  rw [this]; simp
theorem enc_dec : ∀ (n : Nat) (b : List UInt8) (l : List Ch), b.length ≤ n → decA b = some l → encB l = b ∧ l.all rightC = true
  | n, [], l, _, h => by
    rw [decA_nil] at h; cases h; exact ⟨rfl, rfl⟩
  | 0, x :: b, l, hn, _ => by simp at hn
  | n + 1, x :: b, l, hn, h => by
    cases hx : nextC (x :: b) with
    | none => rw [decA_none (by simp) hx] at h; cases h
    | some p =>
      obtain ⟨c, r⟩ := p
      cases hc : rightC c
      · rw [decA_bad hx hc] at h; cases h
      · rw [decA_step hx hc] at h
        have hl := next_less hx
        cases hd : decA r with
        | none => rw [hd] at h; cases h
        | some l' =>
          rw [hd] at h
          cases h
          obtain ⟨h1, h2⟩ := enc_dec n r l' (by omega) hd
          refine ⟨?_, by rw [List.all_cons, hc, h2]; rfl⟩
          show oneC c ++ encB l' = _
          rw [h1, ← one_next hx]
theorem decL_encB {l : List Ch} (h : encE l = 0) : decL (encB l) = some l := by
  obtain ⟨h1, h2⟩ := encE_zero.1 h
  unfold decL
  rw [if_neg (by omega), dec_encB h1]
theorem encB_decL {b : List UInt8} {l : List Ch} (h : decL b = some l) : encE l = 0 ∧ encB l = b := by
  unfold decL at h
  split at h
  · cases h
  · obtain ⟨h1, h2⟩ := enc_dec b.length b l (Nat.le_refl _) h
    exact ⟨encE_zero.2 ⟨h2, by rw [h1]; omega⟩, h1⟩
end Kv
end Go.Proofs.YtmdepmohfnficaaDoor


namespace Go.Proofs.YtmdepmohfnficaaDoor
set_option linter.unusedVariables false
set_option linter.unusedSimpArgs false

namespace Kv
structure Pr where
  n : List UInt8
  v : List UInt8
/-- by rising keys -/
def Srt (l : List Pr) : Prop := l.Pairwise fun a b => a.n < b.n
theorem lt_ne {a b : List UInt8} (h : a < b) : a ≠ b := fun e => List.lt_irrefl b (e ▸ h)
theorem Srt.nodup {l : List Pr} (h : Srt l) : l.Nodup := h.imp fun h e => lt_ne h (congrArg Pr.n e)
theorem Srt.key {l : List Pr} (h : Srt l) {a b : Pr} (ha : a ∈ l) (hb : b ∈ l) (e : a.n = b.n) : a = b := by
  induction l with
  | nil => cases ha
  | cons x r ih =>
    obtain ⟨h1, h2⟩ := List.pairwise_cons.1 h
    rcases List.mem_cons.1 ha with ha2 | ha2
    · rcases List.mem_cons.1 hb with hb2 | hb2
      · rw [ha2, hb2]
      · rw [ha2] at e; exact absurd e (lt_ne (h1 b hb2))
    · rcases List.mem_cons.1 hb with hb2 | hb2
      · rw [hb2] at e; exact absurd e.symm (lt_ne (h1 a ha2))
      · exact ih h2 ha2 hb2
theorem perm_of_mem {l m : List Pr} (hl : l.Nodup) (hm : m.Nodup) (h : ∀ p, p ∈ l ↔ p ∈ m) : l.Perm m := (List.perm_ext_iff_of_nodup hl hm).2 h
theorem srt_ext {l m : List Pr} (hl : Srt l) (hm : Srt m) (h : ∀ p, p ∈ l ↔ p ∈ m) : l = m :=
  List.Perm.eq_of_pairwise (le := fun a b : Pr => a.n < b.n) (fun _ _ _ _ h1 h2 => absurd h2 (List.lt_asymm h1)) hl hm (perm_of_mem hl.nodup hm.nodup h)
theorem Srt.filter {l : List Pr} (h : Srt l) (p : Pr → Bool) : Srt (l.filter p) := List.Pairwise.filter p h
/-- a change put into rising keys -/
def put (c : Ch) : List Pr → List Pr
  | [] => if c.g then [] else [⟨c.k, c.v⟩]
  | p :: r => if p.n < c.k then p :: put c r else (if c.g then [] else [⟨c.k, c.v⟩]) ++ (if p.n = c.k then r else p :: r)
theorem mem_put {c : Ch} : ∀ {l : List Pr}, Srt l → ∀ p, p ∈ put c l ↔ (p ∈ l ∧ p.n ≠ c.k) ∨ (c.g = false ∧ p = ⟨c.k, c.v⟩)
  | [], _, p => by
    unfold put
    cases hg : c.g <;> simp
  | x :: r, h, p => by
    obtain ⟨h1, h2⟩ := List.pairwise_cons.1 h
    have ih := mem_put (c := c) h2 p
    unfold put
    by_cases hx : x.n < c.k
    · rw [if_pos hx, List.mem_cons, ih, List.mem_cons]
      constructor
      · rintro (rfl | ⟨a, b⟩ | a)
        · exact .inl ⟨.inl rfl, lt_ne hx⟩
        · exact .inl ⟨.inr a, b⟩
        · exact .inr a
      · rintro (⟨rfl | a, b⟩ | a)
        · exact .inl rfl
        · exact .inr (.inl ⟨a, b⟩)
        · exact .inr (.inr a)
    · rw [if_neg hx, List.mem_append]
      have hmem : p ∈ (if c.g = true then [] else [⟨c.k, c.v⟩] : List Pr) ↔ (c.g = false ∧ p = ⟨c.k, c.v⟩) := by cases hg : c.g <;> simp
      have hr : ∀ q ∈ r, q.n ≠ c.k := fun q hq e => by
        have := h1 q hq
        rw [e] at this
        exact hx this
      rw [hmem, or_comm]
      by_cases he : x.n = c.k
      · rw [if_pos he, List.mem_cons]
        constructor
        · rintro (a | a)
          · exact .inl ⟨.inr a, hr p a⟩
          · exact .inr a
        · rintro (⟨rfl | a, b⟩ | a)
          · exact absurd he b
          · exact .inl a
          · exact .inr a
      · rw [if_neg he]
        constructor
        · rintro (a | a)
          · refine .inl ⟨a, ?_⟩
            rcases List.mem_cons.1 a with rfl | a
            · exact he
            · exact hr p a
          · exact .inr a
        · rintro (⟨a, _⟩ | a)
          · exact .inl a
          · exact .inr a
theorem put_srt {c : Ch} : ∀ {l : List Pr}, Srt l → Srt (put c l)
  | [], _ => by
    unfold put
    cases c.g
    · exact List.pairwise_singleton _ _
    · exact List.Pairwise.nil
  | x :: r, h => by
    obtain ⟨h1, h2⟩ := List.pairwise_cons.1 h
    unfold put
    by_cases hx : x.n < c.k
    · rw [if_pos hx]
      refine List.pairwise_cons.2 ⟨fun p hp => ?_, put_srt h2⟩
      rcases (mem_put h2 p).1 hp with ⟨a, _⟩ | ⟨_, rfl⟩
      · exact h1 p a
      · exact hx
    · rw [if_neg hx]
      have hle : c.k < x.n ∨ x.n = c.k := by
        by_cases he : x.n = c.k
        · exact .inr he
        · refine .inl (Decidable.byContradiction fun h' => he (List.le_antisymm (List.not_lt.1 h') (List.not_lt.1 hx)))
      have hkey : ∀ q ∈ (if x.n = c.k then r else x :: r), c.k < q.n := fun q hq => by
        by_cases he : x.n = c.k
        · rw [if_pos he] at hq; rw [← he]; exact h1 q hq
        · rw [if_neg he] at hq
          have hl := hle.resolve_right he
          rcases List.mem_cons.1 hq with rfl | hq
          · exact hl
          · exact List.lt_trans hl (h1 q hq)
      have hs : Srt (if x.n = c.k then r else x :: r) := by split; exact h2; exact h
      cases hg : c.g
      · exact List.pairwise_cons.2 ⟨hkey, hs⟩
      · exact hs
def after (l : List Pr) (cs : List Ch) : List Pr := cs.foldl (fun l c => put c l) l
theorem after_append (l : List Pr) (a b : List Ch) : after l (a ++ b) = after (after l a) b := List.foldl_append
theorem after_srt : ∀ (cs : List Ch) {l : List Pr}, Srt l → Srt (after l cs)
  | [], _, h => h
  | c :: cs, _, h => after_srt cs (put_srt h)
theorem after_take {l : List Pr} {cs : List Ch} {k : Nat} (hk : k < cs.length) : after l (cs.take (k + 1)) = put cs[k] (after l (cs.take k)) := by
  unfold after
  rw [List.take_add_one, List.getElem?_eq_getElem hk, List.foldl_append]; rfl
theorem put_len (c : Ch) : ∀ l : List Pr, (put c l).length ≤ l.length + 1
  | [] => by unfold put; split <;> simp
  | x :: r => by
    have ih := put_len c r
    unfold put
    split
    · simp only [List.length_cons]; omega
    · rw [List.length_append]
      have h1 : (if c.g then [] else [⟨c.k, c.v⟩] : List Pr).length ≤ 1 := by split <;> simp
      have h2 : (if x.n = c.k then r else x :: r).length ≤ (x :: r).length := by split <;> simp
      omega
theorem after_len : ∀ (cs : List Ch) (l : List Pr), (after l cs).length ≤ l.length + cs.length
  | [], _ => Nat.le_refl _
  | c :: cs, l => by
    have h1 := after_len cs (put c l)
    have h2 := put_len c l
    show (after (put c l) cs).length ≤ _
    rw [List.length_cons]; omega
/-- pairs whose changes can be -/
def chOf (p : Pr) : Ch := ⟨p.n, p.v, false⟩
def Oks (l : List Pr) : Prop := ∀ p ∈ l, rightC (chOf p) = true
theorem put_oks {c : Ch} {l : List Pr} (hs : Srt l) (h : Oks l) (hc : rightC c = true) : Oks (put c l) := fun p hp => by
  rcases (mem_put hs p).1 hp with ⟨a, _⟩ | ⟨hg, rfl⟩
  · exact h p a
  · obtain ⟨h1, h2, h3, h4⟩ := right_parts hc
    exact right_of h1 h2 h3 fun h => by cases h
theorem after_oks : ∀ (cs : List Ch) {l : List Pr}, Srt l → Oks l → cs.all rightC = true → Oks (after l cs)
  | [], _, _, h, _ => h
  | c :: cs, _, hs, h, hc => by
    rw [List.all_cons, Bool.and_eq_true] at hc
    exact after_oks cs (put_srt hs) (put_oks hs h hc.1) hc.2
/-- as the document goes: all pairs are looked at, with a flag -/
def putG (c : Ch) (d : Bool) : List Pr → List Pr
  | [] => if d then [] else [⟨c.k, c.v⟩]
  | p :: r => (if d = false ∧ ¬ p.n < c.k then [⟨c.k, c.v⟩] else []) ++ (if p.n = c.k then [] else [p]) ++ putG c (d || decide (¬ p.n < c.k)) r
theorem putG_done (c : Ch) : ∀ (l : List Pr), (∀ q ∈ l, q.n ≠ c.k) → putG c true l = l
  | [], _ => rfl
  | p :: r, h => by
    unfold putG
    rw [if_neg (by simp), if_neg (h p (List.mem_cons_self ..)), Bool.true_or, putG_done c r fun q hq => h q (List.mem_cons_of_mem _ hq)]; rfl
theorem putG_eq (c : Ch) : ∀ {l : List Pr}, Srt l → putG c c.g l = put c l
  | [], _ => rfl
  | p :: r, h => by
    obtain ⟨h1, h2⟩ := List.pairwise_cons.1 h
    unfold putG put
    by_cases hx : p.n < c.k
    · rw [if_pos hx, if_neg (fun h => h.2 hx), if_neg (lt_ne hx), show (c.g || decide (¬ p.n < c.k)) = c.g by simp [hx], putG_eq c h2]; rfl
    · have hr : ∀ q ∈ r, q.n ≠ c.k := fun q hq e => by
        have := h1 q hq
        rw [e] at this
        exact hx this
      rw [if_neg hx, show (c.g || decide (¬ p.n < c.k)) = true by simp [hx], putG_done c r hr]
      cases hg : c.g
      · rw [if_pos ⟨rfl, hx⟩]
        by_cases he : p.n = c.k
        · rw [if_pos he, if_pos he]; rfl
        · rw [if_neg he, if_neg he]; rfl
      · rw [if_neg (fun h => by cases h.1)]
        by_cases he : p.n = c.k
        · rw [if_pos he, if_pos he]; rfl
        · rw [if_neg he, if_neg he]; rfl
/-- the value at a key -/
def get (l : List Pr) (k : List UInt8) : Option (List UInt8) := (l.find? fun p => p.n = k).map (·.v)
theorem get_some {l : List Pr} (h : Srt l) {k v : List UInt8} : get l k = some v ↔ (⟨k, v⟩ : Pr) ∈ l := by
  unfold get
  constructor
  · intro e
    cases hf : l.find? fun p => p.n = k with
    | none => rw [hf] at e; cases e
    | some p =>
      rw [hf] at e
      cases e
      have h1 := List.mem_of_find?_eq_some hf
      have h2 := List.find?_some hf
      simp only [decide_eq_true_eq] at h2
      subst h2
      exact h1
  · intro hm
    cases hf : l.find? fun p => p.n = k with
    | none =>
      rw [List.find?_eq_none] at hf
      exact absurd (show decide ((⟨k, v⟩ : Pr).n = k) = true by simp) (hf _ hm)
    | some p =>
      have h1 := List.mem_of_find?_eq_some hf
      have h2 := List.find?_some hf
      simp only [decide_eq_true_eq] at h2
      have := h.key h1 hm h2
      rw [this]; rfl
/-! ### a snapshot -/
def oneP (p : Pr) : List UInt8 := oneC (chOf p)
def snapStep (out : List (List UInt8)) (p : Pr) : List (List UInt8) :=
  match out.getLast? with
  | some z => if z.length + (oneP p).length ≤ 4000 then out.dropLast ++ [z ++ oneP p] else out ++ [oneP p]
  | none => [oneP p]
def snap (l : List Pr) : List (List UInt8) := l.foldl snapStep []
theorem snap_take {l : List Pr} {k : Nat} (hk : k < l.length) : snap (l.take (k + 1)) = snapStep (snap (l.take k)) l[k] := by
  unfold snap
  rw [List.take_add_one, List.getElem?_eq_getElem hk, List.foldl_append]; rfl
/-- a snapshot's records are changes' bytes -/
def Grp (out : List (List UInt8)) (cs : List Ch) : Prop := ∃ gs : List (List Ch), out = gs.map encB ∧ gs.flatten = cs ∧ ∀ g ∈ gs, encE g = 0 ∧ g ≠ []
theorem one_small {p : Pr} (h : rightC (chOf p) = true) : (oneP p).length ≤ 400 := by
  obtain ⟨h1, h2, h3, h4⟩ := right_parts h
  have := one_length (chOf p)
  unfold oneP; omega
theorem grp_one {p : Pr} (h : rightC (chOf p) = true) : encE [chOf p] = 0 := by
  refine encE_zero.2 ⟨by simp [h], ?_⟩
  have := one_small h
  show (oneC (chOf p) ++ []).length ≤ _
  rw [List.append_nil]; show (oneP p).length ≤ _; omega
theorem grp_step {out : List (List UInt8)} {cs : List Ch} {p : Pr} (h : Grp out cs) (hp : rightC (chOf p) = true) : Grp (snapStep out p) (cs ++ [chOf p]) := by
  obtain ⟨gs, rfl, rfl, h3⟩ := h
  have hone : Grp (gs.map encB ++ [oneP p]) (gs.flatten ++ [chOf p]) := by
    refine ⟨gs ++ [[chOf p]], ?_, by simp, fun g hg => ?_⟩
    · rw [List.map_append]; congr 1; show [oneC (chOf p)] = [oneC (chOf p) ++ []]; rw [List.append_nil]
    · rcases List.mem_append.1 hg with hg | hg
      · exact h3 g hg
      · rw [List.mem_singleton] at hg; subst hg; exact ⟨grp_one hp, by simp⟩
  unfold snapStep
  rcases List.eq_nil_or_concat gs with rfl | ⟨gs', z, rfl⟩
  · exact hone
  · rw [List.concat_eq_append] at *
    have hl : ((gs' ++ [z]).map encB).getLast? = some (encB z) := by rw [List.map_append]; simp
    rw [hl]
    by_cases hfit : (encB z).length + (oneP p).length ≤ 4000
    · simp only [if_pos hfit]
      refine ⟨gs' ++ [z ++ [chOf p]], ?_, by simp, fun g hg => ?_⟩
      · rw [List.map_append, List.map_append, List.map_singleton, List.dropLast_concat, List.map_singleton, encB_append]
        congr 2; show _ ++ oneC (chOf p) = _ ++ (oneC (chOf p) ++ []); rw [List.append_nil]
      · rcases List.mem_append.1 hg with hg | hg
        · exact h3 g (List.mem_append_left _ hg)
        · rw [List.mem_singleton] at hg
          subst hg
          obtain ⟨k1, k2⟩ := encE_zero.1 (h3 z (by simp)).1
          refine ⟨encE_zero.2 ⟨by rw [List.all_append, k1]; simp [hp], ?_⟩, by simp⟩
          rw [encB_append, List.length_append]
          show _ + (oneC (chOf p) ++ []).length ≤ _
          rw [List.append_nil]; exact hfit
    · simp only [if_neg hfit]
      exact hone
theorem snap_grp : ∀ (l : List Pr), Oks l → Grp (snap l) (l.map chOf) := by
  intro l h
  have key : ∀ (r : List Pr) (out : List (List UInt8)) (cs : List Ch), Oks r → Grp out cs → Grp (r.foldl snapStep out) (cs ++ r.map chOf) := by
    intro r
    induction r with
    | nil => intro out cs _ hg; rw [List.map_nil, List.append_nil]; exact hg
    | cons p r ih =>
      intro out cs ho hg
      have := ih _ _ (fun q hq => ho q (List.mem_cons_of_mem _ hq)) (grp_step hg (ho p (List.mem_cons_self ..)))
      rw [List.append_assoc] at this
      exact this
  exact key l [] [] h ⟨[], rfl, rfl, fun g hg => by cases hg⟩
/-- what records leave -/
def play (rs : List (List UInt8)) : Option (List Pr) := rs.foldl (fun acc r => acc.bind fun l => (decL r).map (after l)) (some [])
theorem play_append (rs ss : List (List UInt8)) : play (rs ++ ss) = ss.foldl (fun acc r => acc.bind fun l => (decL r).map (after l)) (play rs) := by unfold play; rw [List.foldl_append]
theorem play_one {rs : List (List UInt8)} {l : List Pr} {cs : List Ch} (h : play rs = some l) (he : encE cs = 0) : play (rs ++ [encB cs]) = some (after l cs) := by
  rw [play_append, h]
  rw [List.foldl_cons, List.foldl_nil, Option.bind_some, decL_encB he]; rfl
theorem play_grp : ∀ (gs : List (List Ch)) (l : List Pr), (∀ g ∈ gs, encE g = 0) → (gs.map encB).foldl (fun acc r => acc.bind fun l => (decL r).map (after l)) (some l) = some (after l gs.flatten)
  | [], _, _ => rfl
  | g :: gs, l, h => by
    rw [List.map_cons, List.foldl_cons, Option.bind_some, decL_encB (h g (List.mem_cons_self ..)), Option.map_some, play_grp gs _ fun x hx => h x (List.mem_cons_of_mem _ hx), List.flatten_cons, after_append]
theorem put_last {p : Pr} : ∀ {l : List Pr}, (∀ q ∈ l, q.n < p.n) → put (chOf p) l = l ++ [p]
  | [], _ => rfl
  | q :: l, h => by
    unfold put
    rw [if_pos (show q.n < (chOf p).k from h q (List.mem_cons_self ..)), put_last fun x hx => h x (List.mem_cons_of_mem _ hx)]; rfl
theorem after_self {l : List Pr} (h : Srt l) : after [] (l.map chOf) = l := by
  have key : ∀ (r m : List Pr), Srt (m ++ r) → after m (r.map chOf) = m ++ r := by
    intro r
    induction r with
    | nil => intro m _; rw [List.append_nil]; rfl
    | cons p r ih =>
      intro m hm
      rw [List.map_cons]
      show after (put (chOf p) m) (r.map chOf) = _
      have h1 : ∀ q ∈ m, q.n < p.n := fun q hq => (List.pairwise_append.1 hm).2.2 q hq p (List.mem_cons_self ..)
      rw [put_last h1, ih (m ++ [p]) (by rw [List.append_assoc]; exact hm), List.append_assoc]; rfl
  exact key l [] h
theorem play_snap {l : List Pr} (hs : Srt l) (ho : Oks l) : play (snap l) = some l := by
  obtain ⟨gs, h1, h2, h3⟩ := snap_grp l ho
  unfold play
  rw [h1, play_grp gs [] fun g hg => (h3 g hg).1, h2, after_self hs]
theorem snap_fits {l : List Pr} (ho : Oks l) : ∀ r ∈ snap l, 1 ≤ r.length ∧ r.length ≤ 4000 := fun r hr => by
  obtain ⟨gs, h1, h2, h3⟩ := snap_grp l ho
  rw [h1] at hr
  obtain ⟨g, hg, rfl⟩ := List.mem_map.1 hr
  obtain ⟨k1, k2⟩ := h3 g hg
  refine ⟨?_, (encE_zero.1 k1).2⟩
  cases g with
  | nil => exact absurd rfl k2
  | cons c g => show 1 ≤ (oneC c ++ encB g).length; rw [List.length_append, one_length]; omega
theorem snap_len : ∀ l : List Pr, (snap l).length ≤ l.length := by
  intro l
  have key : ∀ (r : List Pr) (out : List (List UInt8)), (r.foldl snapStep out).length ≤ out.length + r.length := by
    intro r
    induction r with
    | nil => intro out; exact Nat.le_refl _
    | cons p r ih =>
      intro out
      have h1 := ih (snapStep out p)
      have h2 : (snapStep out p).length ≤ out.length + 1 := by
        unfold snapStep
        cases hl : out.getLast? with
        | none => simp only [List.length_singleton]; omega
        | some z =>
          by_cases hfit : z.length + (oneP p).length ≤ 4000
          · simp only [if_pos hfit, List.length_append, List.length_dropLast, List.length_singleton]; omega
          · simp only [if_neg hfit, List.length_append, List.length_singleton]; omega
      rw [List.foldl_cons, List.length_cons]; omega
  have := key l []
  simpa [snap] using this
theorem srt_nil : Srt [] := List.Pairwise.nil
theorem oks_nil : Oks [] := fun p hp => by cases hp
theorem play_good : ∀ (rs : List (List UInt8)) (l : List Pr), play rs = some l → Srt l ∧ Oks l := by
  intro rs
  have key : ∀ (rs : List (List UInt8)) (m l : List Pr), Srt m → Oks m → rs.foldl (fun acc r => acc.bind fun l => (decL r).map (after l)) (some m) = some l → Srt l ∧ Oks l := by
    intro rs
    induction rs with
    | nil => intro m l h1 h2 e; cases e; exact ⟨h1, h2⟩
    | cons r rs ih =>
      intro m l h1 h2 e
      rw [List.foldl_cons, Option.bind_some] at e
      cases hd : decL r with
      | none =>
        rw [hd] at e
        exfalso
        have : ∀ rs : List (List UInt8), rs.foldl (fun acc r => acc.bind fun l => (decL r).map (after l)) (none : Option (List Pr)) = none := fun rs => by
          induction rs with
          | nil => rfl
          | cons r rs ih => rw [List.foldl_cons]; exact ih
        rw [show (Option.map (after m) none : Option (List Pr)) = none from rfl, this] at e
        cases e
      | some cs =>
        rw [hd] at e
        have hc := (encE_zero.1 (encB_decL hd).1).1
        exact ih _ _ (after_srt cs h1) (after_oks cs h1 h2 hc) e
  exact fun l e => key rs [] l srt_nil oks_nil e
end Kv
end Go.Proofs.YtmdepmohfnficaaDoor


