/- Changes from one tree to another, plain. -/
import Derived.Test.YtmdepmohfnficaaDoorGKm
import Derived.Test.YtmdepmohfnficaaDoorTrMath
namespace Go.Proofs.YtmdepmohfnficaaDoor
set_option linter.unusedVariables false
set_option linter.unusedSimpArgs false
open Rk

namespace Kp
open Kv
/-- by rising keys -/
def SrtC (l : List Ch) : Prop := l.Pairwise fun a b => a.k < b.k
theorem SrtC.key {l : List Ch} (h : SrtC l) {a b : Ch} (ha : a ∈ l) (hb : b ∈ l) (e : a.k = b.k) : a = b := by
  induction l with
  | nil => cases ha
  | cons x r ih =>
    obtain ⟨h1, h2⟩ := List.pairwise_cons.1 h
    rcases List.mem_cons.1 ha with ea | ha2
    · rcases List.mem_cons.1 hb with eb | hb2
      · rw [ea, eb]
      · exact absurd e (lt_ne (by rw [ea]; exact h1 b hb2))
    · rcases List.mem_cons.1 hb with eb | hb2
      · exact absurd e.symm (lt_ne (by rw [eb]; exact h1 a ha2))
      · exact ih h2 ha2 hb2
theorem srtC_ext {l m : List Ch} (hl : SrtC l) (hm : SrtC m) (h : ∀ p, p ∈ l ↔ p ∈ m) : l = m := by
  have nl : l.Nodup := hl.imp fun h e => lt_ne h (congrArg Ch.k e)
  have nm : m.Nodup := hm.imp fun h e => lt_ne h (congrArg Ch.k e)
  exact ((List.perm_ext_iff_of_nodup nl nm).2 h).eq_of_pairwise (fun a b _ _ h1 h2 => absurd (List.lt_trans h1 h2) (List.lt_irrefl _)) hl hm
/-- what is there behind changes whose keys are apart -/
theorem mem_after : ∀ (cs : List Ch) {L : List Pr}, Srt L → cs.Pairwise (fun a b => a.k ≠ b.k) → ∀ p, p ∈ after L cs ↔ (p ∈ L ∧ ∀ c ∈ cs, c.k ≠ p.n) ∨ ∃ c ∈ cs, c.g = false ∧ p = ⟨c.k, c.v⟩
  | [], L, _, _, p => by simp [after]
  | c :: cs, L, hs, hp, p => by
    obtain ⟨h1, h2⟩ := List.pairwise_cons.1 hp
    show p ∈ after (put c L) cs ↔ _
    rw [mem_after cs (put_srt hs) h2 p, mem_put hs]
    constructor
    · rintro (⟨⟨ha, hb⟩ | ⟨ha, hb⟩, hc⟩ | ⟨d, hd, hg, e⟩)
      · exact .inl ⟨ha, fun d hd => (List.mem_cons.1 hd).elim (fun e => by rw [e]; exact Ne.symm hb) (hc d)⟩
      · exact .inr ⟨c, List.mem_cons_self .., ha, hb⟩
      · exact .inr ⟨d, List.mem_cons_of_mem _ hd, hg, e⟩
    · rintro (⟨ha, hb⟩ | ⟨d, hd, hg, e⟩)
      · exact .inl ⟨.inl ⟨ha, Ne.symm (hb c (List.mem_cons_self ..))⟩, fun d hd => hb d (List.mem_cons_of_mem _ hd)⟩
      · rcases List.mem_cons.1 hd with rfl | hd
        · exact .inl ⟨.inr ⟨hg, e⟩, fun x hx => by rw [e]; exact Ne.symm (h1 x hx)⟩
        · exact .inr ⟨d, hd, hg, e⟩
def chR (r : Rec) : Ch := ⟨r.name, encS r, false⟩
def goneR (r : Rec) : Ch := ⟨r.name, [], true⟩
/-- the changes, in the order in which the program lays them -/
def raw (a b : List Rec) : List Ch := (a.filter fun r => decide (r.name ∉ Tr.names b)).map goneR ++ (b.filter fun r => decide (r ∉ a)).map chR
theorem mem_raw {a b : List Rec} {c : Ch} : c ∈ raw a b ↔ (∃ r ∈ a, r.name ∉ Tr.names b ∧ c = goneR r) ∨ ∃ r ∈ b, r ∉ a ∧ c = chR r := by
  unfold raw
  simp only [List.mem_append, List.mem_map, List.mem_filter, decide_eq_true_eq]
  constructor
  · rintro (⟨r, ⟨h1, h2⟩, rfl⟩ | ⟨r, ⟨h1, h2⟩, rfl⟩)
    · exact .inl ⟨r, h1, h2, rfl⟩
    · exact .inr ⟨r, h1, h2, rfl⟩
  · rintro (⟨r, h1, h2, rfl⟩ | ⟨r, h1, h2, rfl⟩)
    · exact .inl ⟨r, ⟨h1, h2⟩, rfl⟩
    · exact .inr ⟨r, ⟨h1, h2⟩, rfl⟩
theorem name_mem {l : List Rec} {r : Rec} (h : r ∈ l) : r.name ∈ Tr.names l := List.mem_map.2 ⟨r, h, rfl⟩
theorem same_name {l : List Rec} (hn : (Tr.names l).Nodup) {r s : Rec} (hr : r ∈ l) (hs : s ∈ l) (e : r.name = s.name) : r = s := by
  unfold Tr.names at hn
  obtain ⟨i, hi⟩ := List.getElem?_of_mem hr
  obtain ⟨j, hj⟩ := List.getElem?_of_mem hs
  have hil : i < (l.map (·.name)).length := by rw [List.length_map]; exact (List.getElem?_eq_some_iff.1 hi).1
  have hij : i = j := (List.getElem?_inj hil hn).1 (by rw [List.getElem?_map, List.getElem?_map, hi, hj]; exact congrArg some e)
  subst hij
  rw [hi] at hj
  exact Option.some.inj hj
theorem raw_apart {a b : List Rec} (ha : (Tr.names a).Nodup) (hb : (Tr.names b).Nodup) : (raw a b).Pairwise fun x y => x.k ≠ y.k := by
  unfold raw
  unfold Tr.names List.Nodup at ha hb
  rw [List.pairwise_map] at ha hb
  refine List.pairwise_append.2 ⟨?_, ?_, fun x hx y hy => ?_⟩
  · rw [List.pairwise_map]; exact ha.filter _
  · rw [List.pairwise_map]; exact hb.filter _
  · obtain ⟨r, hr, rfl⟩ := List.mem_map.1 hx
    obtain ⟨s, hs, rfl⟩ := List.mem_map.1 hy
    have h1 := (List.mem_filter.1 hr).2
    have h2 := (List.mem_filter.1 hs).1
    simp only [decide_eq_true_eq] at h1
    exact fun e => h1 (by rw [show r.name = s.name from e]; exact name_mem h2)
/-- the pairs that tell a tree, by rising names -/
structure Tells (L : List Pr) (a : List Rec) : Prop where
  srt : Srt L
  mem : ∀ p, p ∈ L ↔ ∃ r ∈ a, p = ⟨r.name, encS r⟩
theorem Tells.one {L M : List Pr} {a : List Rec} (h : Tells L a) (k : Tells M a) : L = M := srt_ext h.srt k.srt fun p => (h.mem p).trans (k.mem p).symm
/-- the changes from a to b -/
structure IsDiff (d : List Ch) (a b : List Rec) : Prop where
  srt : SrtC d
  mem : ∀ c, c ∈ d ↔ c ∈ raw a b
theorem IsDiff.one {d e : List Ch} {a b : List Rec} (h : IsDiff d a b) (k : IsDiff e a b) : d = e := srtC_ext h.srt k.srt fun p => (h.mem p).trans (k.mem p).symm
theorem diff_after {d : List Ch} {L : List Pr} {a b : List Rec} (hd : IsDiff d a b) (hL : Tells L a) (ha : (Tr.names a).Nodup) (hb : (Tr.names b).Nodup) : Tells (after L d) b := by
  have hap : d.Pairwise fun x y => x.k ≠ y.k := hd.srt.imp fun h => lt_ne h
  refine ⟨after_srt d hL.srt, fun p => ?_⟩
  rw [mem_after d hL.srt hap, hL.mem]
  constructor
  · rintro (⟨⟨r, hr, rfl⟩, hc⟩ | ⟨c, hc, hg, rfl⟩)
    · have h1 : r.name ∈ Tr.names b := Classical.byContradiction fun h => hc (goneR r) ((hd.mem _).2 (mem_raw.2 (.inl ⟨r, hr, h, rfl⟩))) rfl
      obtain ⟨s, hs, e⟩ := List.mem_map.1 h1
      have h2 : s ∈ a := Classical.byContradiction fun h => hc (chR s) ((hd.mem _).2 (mem_raw.2 (.inr ⟨s, hs, h, rfl⟩))) e
      have := same_name ha h2 hr e
      subst this
      exact ⟨s, hs, rfl⟩
    · rcases mem_raw.1 ((hd.mem c).1 hc) with ⟨r, _, _, rfl⟩ | ⟨r, hr, _, rfl⟩
      · cases hg
      · exact ⟨r, hr, rfl⟩
  · rintro ⟨r, hr, rfl⟩
    by_cases h : r ∈ a
    · refine .inl ⟨⟨r, h, rfl⟩, fun c hc e => ?_⟩
      rcases mem_raw.1 ((hd.mem c).1 hc) with ⟨s, _, hs, rfl⟩ | ⟨s, hs, hn, rfl⟩
      · exact hs (by rw [show s.name = r.name from e]; exact name_mem hr)
      · exact hn (by rw [same_name hb hs hr e]; exact h)
    · exact .inr ⟨chR r, (hd.mem _).2 (mem_raw.2 (.inr ⟨r, hr, h, rfl⟩)), rfl, rfl⟩
theorem tells_nil : Tells [] [] := ⟨srt_nil, fun p => by simp⟩
/-- of trees with the same records there are none -/
theorem raw_none {a b : List Rec} (h : ∀ r, r ∈ a ↔ r ∈ b) : raw a b = [] := List.eq_nil_iff_forall_not_mem.2 fun c hc => by
  rcases mem_raw.1 hc with ⟨r, h1, h2, _⟩ | ⟨r, h1, h2, _⟩
  · exact h2 (name_mem ((h r).1 h1))
  · exact h2 ((h r).2 h1)
end Kp
end Go.Proofs.YtmdepmohfnficaaDoor
