/- Trees of what was kept, plain: the program's rounds, and the document's. -/
import Derived.Test.YtmdepmohfnficaaDoorTrV
namespace Go.Proofs.YtmdepmohfnficaaDoor
set_option linter.unusedVariables false
set_option linter.unusedSimpArgs false
open Rk

structure Pr where
  n : List UInt8
  v : List UInt8
namespace Tr
theorem dec_ok {name s : List UInt8} (h : decE name s = 0) : (decR name s).name = name ∧ rightI (decR name s) = true ∧ encS (decR name s) = s := by
  cases hd : dec name s with
  | none => unfold decE at h; rw [hd] at h; cases h
  | some r =>
    have e : decR name s = r := by unfold decR; rw [hd]; rfl
    rw [e]
    unfold dec at hd
    split at hd
    · cases hd
    · split at hd
      · cases hd
      · split at hd
        · rename_i hc
          rw [Bool.and_eq_true, beq_iff_eq] at hc
          cases hd
          exact ⟨rfl, hc.1, by unfold encS; rw [if_pos hc.1]; exact hc.2⟩
        · cases hd
theorem decE_cases (name s : List UInt8) : decE name s = 0 ∨ decE name s = 8 := by
  unfold decE
  split
  · exact .inl rfl
  · exact .inr rfl
def pE (p : Pr) : Int := decE p.n p.v
def pR (p : Pr) : Rec := decR p.n p.v
theorem pR_name {p : Pr} (h : pE p = 0) : (pR p).name = p.n := (dec_ok h).1
theorem pR_right {p : Pr} (h : pE p = 0) : rightI (pR p) = true := (dec_ok h).2.1
/-- one round of Adds, whatever they answer -/
def rndL (room : Nat) : List Pr → List Rec → List Rec
  | [], t => t
  | p :: ps, t => rndL room ps (addL room t (pR p))
/-- the program's round: none where a key and value are no record, or a tree is full -/
def rndP (room : Nat) : List Pr → List Rec → Option (List Rec)
  | [], t => some t
  | p :: ps, t => if pE p ≠ 0 then none else if addE room t (pR p) = 5 then none else rndP room ps (addL room t (pR p))
theorem addL_le (room : Nat) (t : List Rec) (r : Rec) : t.length ≤ (addL room t r).length := by
  unfold addL
  split
  · rw [List.length_append]; omega
  · exact Nat.le_refl _
theorem addL_same {room : Nat} {t : List Rec} {r : Rec} (h : (addL room t r).length = t.length) : addL room t r = t := by
  unfold addL at h ⊢
  split
  · rename_i e
    rw [if_pos e, List.length_append, List.length_singleton] at h; omega
  · rfl
theorem rndL_le (room : Nat) : ∀ (ps : List Pr) (t : List Rec), t.length ≤ (rndL room ps t).length
  | [], t => Nat.le_refl _
  | p :: ps, t => Nat.le_trans (addL_le room t (pR p)) (rndL_le room ps _)
theorem rndL_same {room : Nat} : ∀ {ps : List Pr} {t : List Rec}, (rndL room ps t).length = t.length → rndL room ps t = t
  | [], t, _ => rfl
  | p :: ps, t, h => by
    rw [rndL] at h ⊢
    have h1 := addL_le room t (pR p)
    have h2 := rndL_le room ps (addL room t (pR p))
    have e := addL_same (show (addL room t (pR p)).length = t.length by omega)
    rw [e] at h ⊢
    exact rndL_same h
theorem rndP_some {room : Nat} : ∀ {ps : List Pr} {t u : List Rec}, rndP room ps t = some u → u = rndL room ps t
  | [], t, u, h => by cases h; rfl
  | p :: ps, t, u, h => by
    rw [rndP] at h
    split at h
    · cases h
    · split at h
      · cases h
      · rw [rndL]
        exact rndP_some h
theorem rndP_le {room : Nat} {ps : List Pr} {t u : List Rec} (h : rndP room ps t = some u) : t.length ≤ u.length := by
  rw [rndP_some h]; exact rndL_le _ _ _
theorem rndP_bad {room : Nat} : ∀ {ps : List Pr} {t : List Rec} {p : Pr}, p ∈ ps → pE p ≠ 0 → rndP room ps t = none
  | q :: ps, t, p, hp, h => by
    rw [rndP]
    rcases List.mem_cons.1 hp with rfl | hp
    · rw [if_pos h]
    · split
      · rfl
      · split
        · rfl
        · exact rndP_bad hp h
/-- the program's loop -/
def loopP (room : Nat) (ps : List Pr) (t : List Rec) : Option (List Rec) :=
  if h : t.length < ps.length then match rndP room ps t with
    | none => none
    | some u => if h2 : t.length < u.length then loopP room ps u else none
  else some t
termination_by ps.length - t.length
def itL (room : Nat) (ps : List Pr) : Nat → List Rec → List Rec
  | 0, t => t
  | k + 1, t => itL room ps k (rndL room ps t)
/-- a tree whose names are keys -/
structure Key (room : Nat) (ps : List Pr) (t : List Rec) : Prop where
  ok : Ok t
  len : t.length ≤ room
  key : ∀ n ∈ names t, n ∈ ps.map (·.n)
theorem Key.add {room : Nat} {ps : List Pr} {t : List Rec} (h : Key room ps t) {p : Pr} (hp : p ∈ ps) (he : pE p = 0) : Key room ps (addL room t (pR p)) := by
  refine ⟨okAdd h.ok _ _, addL_len _ _ _ h.len, ?_⟩
  unfold addL
  split
  · intro n hn
    unfold names at hn
    rw [List.map_append, List.mem_append] at hn
    rcases hn with hn | hn
    · exact h.key n hn
    · simp at hn
      rw [hn, pR_name he]
      exact List.mem_map.2 ⟨p, hp, rfl⟩
  · exact h.key
theorem Key.rnd {room : Nat} {ps : List Pr} (hall : ∀ p ∈ ps, pE p = 0) : ∀ (qs : List Pr) {t : List Rec}, (∀ p ∈ qs, p ∈ ps) → Key room ps t → Key room ps (rndL room qs t)
  | [], _, _, h => h
  | q :: qs, t, hq, h => Key.rnd hall qs (fun p hp => hq p (List.mem_cons_of_mem _ hp)) (h.add (hq q (List.mem_cons_self ..)) (hall q (hq q (List.mem_cons_self ..))))
theorem Key.few {room : Nat} {ps : List Pr} {t : List Rec} (h : Key room ps t) : t.length ≤ ps.length := by
  have := nodup_le (b := ps.map (·.n)) h.ok.nodup h.key
  rwa [names_len, List.length_map] at this
/-- with no key twice, and room for all, none is refused for want of room -/
theorem addE_not5 {room : Nat} {ps : List Pr} {t : List Rec} (h : Key room ps t) (hr : ps.length ≤ room) {p : Pr} (hp : p ∈ ps) (he : pE p = 0) : addE room t (pR p) ≠ 5 := by
  unfold addE
  rw [pR_right he]
  split
  · decide
  · split
    · decide
    · rename_i h2
      split
      · decide
      · split
        · rename_i h4
          exfalso
          have hn : ¬ p.n ∈ names t := fun hn => by
            obtain ⟨r, hr, e⟩ := List.mem_map.1 hn
            apply h2
            obtain ⟨i, hi⟩ := List.getElem?_of_mem hr
            refine isIn_ix.2 ?_
            rw [pR_name he, ← e, ix_at h.ok.nodup hi]
            simp
          have hlt := nodup_le (a := p.n :: names t) (b := ps.map (·.n)) (List.nodup_cons.2 ⟨hn, h.ok.nodup⟩) fun x hx => by
            rcases List.mem_cons.1 hx with rfl | hx
            · exact List.mem_map.2 ⟨p, hp, rfl⟩
            · exact h.key x hx
          rw [List.length_cons, names_len, List.length_map] at hlt
          omega
        · decide
theorem rndP_all {room : Nat} {ps : List Pr} (hall : ∀ p ∈ ps, pE p = 0) (hr : ps.length ≤ room) : ∀ (qs : List Pr) {t : List Rec}, (∀ p ∈ qs, p ∈ ps) → Key room ps t → rndP room qs t = some (rndL room qs t)
  | [], _, _, _ => rfl
  | q :: qs, t, hq, h => by
    have hm := hq q (List.mem_cons_self ..)
    rw [rndP, if_neg (by rw [hall q hm]; simp), if_neg (addE_not5 h hr hm (hall q hm)), rndL]
    exact rndP_all hall hr qs (fun p hp => hq p (List.mem_cons_of_mem _ hp)) (h.add hm (hall q hm))
theorem itL_same {room : Nat} {ps : List Pr} {t : List Rec} (h : rndL room ps t = t) : ∀ k, itL room ps k t = t
  | 0 => rfl
  | k + 1 => by rw [itL, h, itL_same h k]
/-- who has all names is not added to -/
theorem full_same {room : Nat} {ps : List Pr} (hall : ∀ p ∈ ps, pE p = 0) {t : List Rec} (h : Key room ps t) (hn : (ps.map (·.n)).Nodup) (hl : ps.length ≤ t.length) : rndL room ps t = t := by
  apply rndL_same
  have h1 := (Key.rnd hall ps (fun _ h => h) h).few
  have h2 := rndL_le room ps t
  omega
theorem loop_it {room : Nat} {ps : List Pr} (hall : ∀ p ∈ ps, pE p = 0) (hr : ps.length ≤ room) (hn : (ps.map (·.n)).Nodup) : ∀ (k : Nat) {t : List Rec}, Key room ps t → ps.length - t.length ≤ k →
    loopP room ps t = if (itL room ps k t).length < ps.length then none else some (itL room ps k t)
  | k, t, h, hk => by
    by_cases hl : ps.length ≤ t.length
    · rw [loopP, dif_neg (by omega), itL_same (full_same hall h hn hl), if_neg (by omega)]
    · obtain ⟨j, rfl⟩ : ∃ j, k = j + 1 := ⟨k - 1, by omega⟩
      rw [loopP, dif_pos (by omega), rndP_all hall hr ps (fun _ h => h) h, itL]
      dsimp only
      have hge := rndL_le room ps t
      split
      · exact loop_it hall hr hn j (Key.rnd hall ps (fun _ h => h) h) (by omega)
      · have hs := rndL_same (room := room) (ps := ps) (t := t) (by omega)
        rw [hs, itL_same hs, if_pos (by omega)]
/-- a key twice: never all of them -/
theorem nodup_of_le {α : Type} [BEq α] [LawfulBEq α] : ∀ {a b : List α}, a.Nodup → (∀ x ∈ a, x ∈ b) → b.length ≤ a.length → b.Nodup
  | [], b, _, _, hl => by
    have : b = [] := List.eq_nil_of_length_eq_zero (by simpa using hl)
    rw [this]; exact List.nodup_nil
  | x :: a, b, hn, hs, hl => by
    obtain ⟨hx, ha⟩ := List.nodup_cons.1 hn
    have hxb := hs x (List.mem_cons_self ..)
    have hsub : ∀ y ∈ a, y ∈ b.erase x := fun y hy => (List.mem_erase_of_ne (fun e : y = x => hx (by rw [← e]; exact hy))).2 (hs y (List.mem_cons_of_mem _ hy))
    have hle := List.length_erase_of_mem hxb
    have hpos := List.length_pos_of_mem hxb
    rw [List.length_cons] at hl
    have hne : (b.erase x).Nodup := nodup_of_le ha hsub (by omega)
    have hnx : ¬ x ∈ b.erase x := fun hm => by
      have h2 : ∀ y ∈ a, y ∈ (b.erase x).erase x := fun y hy => (List.mem_erase_of_ne (fun e : y = x => hx (by rw [← e]; exact hy))).2 (hsub y hy)
      have h3 := nodup_le ha h2
      rw [List.length_erase_of_mem hm] at h3
      have := List.length_pos_of_mem hm
      omega
    exact (List.perm_cons_erase hxb).nodup_iff.2 (List.nodup_cons.2 ⟨hnx, hne⟩)
theorem loop_none {room : Nat} {ps : List Pr} (hbad : ¬ (ps.length ≤ room ∧ (ps.map (·.n)).Nodup)) (hall : ∀ p ∈ ps, pE p = 0) : ∀ (k : Nat) {t : List Rec}, Key room ps t → ps.length - t.length ≤ k → loopP room ps t = none
  | k, t, h, hk => by
    have hlt : t.length < ps.length := by
      rcases Nat.lt_or_ge t.length ps.length with h1 | h1
      · exact h1
      · exfalso
        apply hbad
        refine ⟨Nat.le_trans h1 h.len, nodup_of_le h.ok.nodup h.key ?_⟩
        rw [List.length_map, names_len]; exact h1
    obtain ⟨j, rfl⟩ : ∃ j, k = j + 1 := ⟨k - 1, by omega⟩
    rw [loopP, dif_pos hlt]
    cases hp : rndP room ps t with
    | none => rfl
    | some u =>
      dsimp only
      split
      · rename_i h2
        refine loop_none hbad hall j ?_ (by omega)
        rw [rndP_some hp]
        exact Key.rnd hall ps (fun _ h => h) h
      · rfl
/-- the document's answer -/
def loadL (room : Nat) (ps : List Pr) : Option (List Rec) :=
  if ps.length ≤ room ∧ (∀ p ∈ ps, pE p = 0) ∧ (ps.map (·.n)).Nodup ∧ ps.length ≤ (itL room ps ps.length []).length then some (itL room ps ps.length []) else none
theorem Key.nil (room : Nat) (ps : List Pr) : Key room ps [] := ⟨Ok.nil, Nat.zero_le _, fun n h => by simp [names] at h⟩
theorem loop_load (room : Nat) (ps : List Pr) : loopP room ps [] = loadL room ps := by
  unfold loadL
  by_cases hall : ∀ p ∈ ps, pE p = 0
  · by_cases hg : ps.length ≤ room ∧ (ps.map (·.n)).Nodup
    · rw [loop_it hall hg.1 hg.2 ps.length (Key.nil room ps) (by simp)]
      by_cases hl : (itL room ps ps.length []).length < ps.length
      · rw [if_pos hl, if_neg (fun h => by have := h.2.2.2; omega)]
      · rw [if_neg hl, if_pos ⟨hg.1, hall, hg.2, by omega⟩]
    · rw [loop_none hg hall ps.length (Key.nil room ps) (by simp), if_neg fun h => hg ⟨h.1, h.2.2.1⟩]
  · rw [if_neg fun h => hall h.2.1]
    obtain ⟨p, hp, he⟩ : ∃ p, p ∈ ps ∧ pE p ≠ 0 := by
      refine Classical.byContradiction fun hno => hall fun p hp => ?_
      exact Classical.byContradiction fun he => hno ⟨p, hp, he⟩
    rw [loopP, dif_pos (by simpa using List.length_pos_of_mem hp), rndP_bad hp he]
end Tr
end Go.Proofs.YtmdepmohfnficaaDoor
