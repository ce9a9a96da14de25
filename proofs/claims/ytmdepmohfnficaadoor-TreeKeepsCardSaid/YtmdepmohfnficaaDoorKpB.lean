/- What tells a tree is loaded as a tree of the same records, plain. -/
import Derived.Test.YtmdepmohfnficaaDoorKpA
import Derived.Test.YtmdepmohfnficaaDoorTrF1
namespace Go.Proofs.YtmdepmohfnficaaDoor
set_option linter.unusedVariables false
set_option linter.unusedSimpArgs false
open Rk

namespace Kp
open Tr
/-- the pairs ps tell b's records -/
structure Tl (ps : List Pr) (b : List Rec) : Prop where
  ok : Ok b
  mem : ∀ p, p ∈ ps ↔ ∃ r ∈ b, p = ⟨r.name, encS r⟩
  len : ps.length = b.length
theorem Tl.good {ps : List Pr} {b : List Rec} (h : Tl ps b) {p : Pr} (hp : p ∈ ps) : pE p = 0 ∧ pR p ∈ b := by
  obtain ⟨r, hr, rfl⟩ := (h.mem p).1 hp
  obtain ⟨h1, h2⟩ := dec_enc (h.ok.right r hr)
  exact ⟨h2, by show decR r.name (encS r) ∈ b; rw [h1]; exact hr⟩
theorem isIn_names {l : List Rec} {n : List UInt8} : isIn l n = true ↔ n ∈ names l := by
  rw [isIn_ix, Ne, ix_none]
  constructor
  · intro h
    refine Classical.byContradiction fun hn => h fun r hr e => hn (by rw [← e]; exact name_mem hr)
  · intro h hn
    obtain ⟨r, hr, e⟩ := List.mem_map.1 h
    exact hn r hr e
structure Inv (room : Nat) (ps : List Pr) (b t : List Rec) : Prop where
  key : Key room ps t
  sub : ∀ r ∈ t, r ∈ b
theorem inv_add {room : Nat} {ps : List Pr} {b t : List Rec} (hT : Tl ps b) (h : Inv room ps b t) {p : Pr} (hp : p ∈ ps) : Inv room ps b (addL room t (pR p)) := by
  refine ⟨h.key.add hp (hT.good hp).1, fun r hr => ?_⟩
  unfold addL at hr
  split at hr
  · rcases List.mem_append.1 hr with h1 | h1
    · exact h.sub r h1
    · rw [List.mem_singleton.1 h1]; exact (hT.good hp).2
  · exact h.sub r hr
theorem inv_rnd {room : Nat} {ps : List Pr} {b : List Rec} (hT : Tl ps b) : ∀ (qs : List Pr) {t : List Rec}, (∀ p ∈ qs, p ∈ ps) → Inv room ps b t → Inv room ps b (rndL room qs t)
  | [], _, _, h => h
  | q :: qs, t, hq, h => inv_rnd hT qs (fun p hp => hq p (List.mem_cons_of_mem _ hp)) (inv_add hT h (hq q (List.mem_cons_self ..)))
theorem rndP_all {room : Nat} {ps : List Pr} {b : List Rec} (hT : Tl ps b) (hr : ps.length ≤ room) : ∀ (qs : List Pr) {t : List Rec}, (∀ p ∈ qs, p ∈ ps) → Inv room ps b t → rndP room qs t = some (rndL room qs t)
  | [], _, _, _ => rfl
  | q :: qs, t, hq, h => by
    have hq1 := hq q (List.mem_cons_self ..)
    rw [rndP, rndL, if_neg (by rw [(hT.good hq1).1]; simp), if_neg (addE_not5 h.key hr hq1 (hT.good hq1).1)]
    exact rndP_all hT hr qs (fun p hp => hq p (List.mem_cons_of_mem _ hp)) (inv_add hT h hq1)
theorem rnd_still {room : Nat} : ∀ {ps : List Pr} {t : List Rec}, (rndL room ps t).length = t.length → ∀ p ∈ ps, addL room t (pR p) = t
  | q :: ps, t, h, p, hp => by
    rw [rndL] at h
    have h1 := addL_le room t (pR q)
    have h2 := rndL_le room ps (addL room t (pR q))
    have e := addL_same (show (addL room t (pR q)).length = t.length by omega)
    rcases List.mem_cons.1 hp with rfl | hp
    · exact e
    · rw [e] at h
      exact rnd_still h p hp
theorem stuck {room : Nat} {ps : List Pr} {b t : List Rec} (hT : Tl ps b) (hr : ps.length ≤ room) (h : Inv room ps b t) (hl : t.length < b.length) (hs : (rndL room ps t).length = t.length) : ∀ (i : Nat) (r : Rec), b[i]? = some r → r ∈ t := by
  intro i
  induction i using Nat.strongRecOn with
  | ind i ih =>
    intro r hi
    have hrb := List.mem_of_getElem? hi
    refine Classical.byContradiction fun hn => ?_
    have hp : (⟨r.name, encS r⟩ : Pr) ∈ ps := (hT.mem _).2 ⟨r, hrb, rfl⟩
    have hst := rnd_still hs _ hp
    have e : pR ⟨r.name, encS r⟩ = r := (dec_enc (hT.ok.right r hrb)).1
    rw [e] at hst
    have h7 : ¬ isIn t r.name = true := fun h7 => by
      rw [isIn_names] at h7
      obtain ⟨s, hs, es⟩ := List.mem_map.1 h7
      exact hn (by rw [← same_name hT.ok.nodup (h.sub s hs) hrb es]; exact hs)
    have h6 : ¬ (r.par ≠ [] ∧ isIn t r.par = false) := fun ⟨hne, hf⟩ => by
      rcases hT.ok.par hi with h1 | ⟨j, s, hj, hs, es⟩
      · exact hne h1
      · have := ih j hj s hs
        have : isIn t r.par = true := isIn_names.2 (by rw [← es]; exact name_mem this)
        rw [this] at hf; cases hf
    have h5 : ¬ room ≤ t.length := by have := hT.len; omega
    have hadd : addE room t r = 0 := by
      unfold addE
      rw [if_neg (by rw [hT.ok.right r hrb]; simp), if_neg h7, if_neg h6, if_neg h5]
    have : addL room t r = t ++ [r] := by unfold addL; rw [if_pos hadd]
    rw [this] at hst
    have := congrArg List.length hst
    simp at this
theorem all_in {b t : List Rec} (hb : Ok b) (hs : ∀ r ∈ b, r ∈ t) : b.length ≤ t.length := by
  have := nodup_le (a := names b) (b := names t) hb.nodup fun n hn => by
    obtain ⟨r, hr, rfl⟩ := List.mem_map.1 hn
    exact name_mem (hs r hr)
  rwa [names_len, names_len] at this
theorem loop_all {room : Nat} {ps : List Pr} {b : List Rec} (hT : Tl ps b) (hr : ps.length ≤ room) : ∀ (n : Nat) (t : List Rec), ps.length - t.length ≤ n → Inv room ps b t → ∃ u, loopP room ps t = some u ∧ Inv room ps b u ∧ b.length ≤ u.length := by
  intro n
  induction n with
  | zero =>
    intro t hn h
    refine ⟨t, ?_, h, by have := hT.len; omega⟩
    rw [loopP, dif_neg (by omega)]
  | succ n ih =>
    intro t hn h
    by_cases hl : t.length < ps.length
    · have hrn := rndP_all hT hr ps (fun p hp => hp) h
      have hgrow : t.length < (rndL room ps t).length := by
        refine Classical.byContradiction fun hng => ?_
        have hle := rndL_le room ps t
        have hst := stuck hT hr h (by have := hT.len; omega) (by omega)
        have := all_in hT.ok fun r hr => by
          obtain ⟨i, hi⟩ := List.getElem?_of_mem hr
          exact hst i r hi
        have := hT.len
        omega
      obtain ⟨u, h1, h2, h3⟩ := ih (rndL room ps t) (by omega) (inv_rnd hT ps (fun p hp => hp) h)
      refine ⟨u, ?_, h2, h3⟩
      rw [loopP, dif_pos hl, hrn]
      simp only
      rw [dif_pos hgrow]
      exact h1
    · refine ⟨t, ?_, h, by have := hT.len; omega⟩
      rw [loopP, dif_neg hl]
/-- all are there, and no other -/
theorem load_tells {room : Nat} {ps : List Pr} {b : List Rec} (hT : Tl ps b) (hr : b.length ≤ room) : ∃ u, loopP room ps [] = some u ∧ Ok u ∧ (∀ r, r ∈ u ↔ r ∈ b) ∧ u.length = b.length := by
  obtain ⟨u, h1, h2, h3⟩ := loop_all hT (by rw [hT.len]; exact hr) ps.length [] (by simp) ⟨⟨Ok.nil, Nat.zero_le _, fun n hn => by simp [names] at hn⟩, fun r hr => by cases hr⟩
  have hle : u.length ≤ b.length := all_in h2.key.ok h2.sub
  have hin : ∀ r ∈ b, r ∈ u := fun r hr => by
    refine Classical.byContradiction fun hn => ?_
    have hnn : r.name ∉ names u := fun hm => by
      obtain ⟨s, hs, e⟩ := List.mem_map.1 hm
      exact hn (by rw [← same_name hT.ok.nodup (h2.sub s hs) hr e]; exact hs)
    have := nodup_le (a := r.name :: names u) (b := names b) (List.nodup_cons.2 ⟨hnn, h2.key.ok.nodup⟩) fun n hm => by
      rcases List.mem_cons.1 hm with e | hm
      · rw [e]; exact name_mem hr
      · obtain ⟨s, hs, rfl⟩ := List.mem_map.1 hm
        exact name_mem (h2.sub s hs)
    rw [List.length_cons, names_len, names_len] at this
    omega
  exact ⟨u, h1, h2.key.ok, fun r => ⟨h2.sub r, hin r⟩, by omega⟩
end Kp
end Go.Proofs.YtmdepmohfnficaaDoor
