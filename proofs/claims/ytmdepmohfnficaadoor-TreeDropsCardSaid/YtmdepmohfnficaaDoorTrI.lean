/- slices.DeleteFunc. -/
import Derived.Test.YtmdepmohfnficaaDoorTrH
namespace Go.Proofs.YtmdepmohfnficaaDoor
open Go.RowKit Rk Tr

/-- rows 0 to c are those that stay of the first j, rows from j on are as they were -/
structure DelSt (w : World) (g cap : Nat) (l : List Rec) (p : Rec → Bool) (j : Nat) : Prop where
  blk : ∃ cur, w.heap[g]? = some (.cells cur 36 (0, 0)) ∧ cur.size = cap * 10
  front : ∀ q x, ((l.take j).filter fun r => !p r)[q]? = some x → w.rangeAt g (q * 10) (prow x)
  back : ∀ q x, j ≤ q → l[q]? = some x → w.rangeAt g (q * 10) (prow x)
theorem DelSt.ext {w w' : World} {g cap : Nat} {l : List Rec} {p : Rec → Bool} {j : Nat} (h : DelSt w g cap l p j) (e : Ext w w') : DelSt w' g cap l p j :=
  ⟨let ⟨c, h1, h2⟩ := h.blk; ⟨c, e.heap h1, h2⟩, fun q x hq i u hu => e.cell (h.front q x hq i u hu), fun q x hj hq i u hu => e.cell (h.back q x hj hq i u hu)⟩
theorem keep_in {l : List Rec} {p : Rec → Bool} {j : Nat} {x : Rec} (hx : l[j]? = some x) (hp : p x = true) : (l.take (j + 1)).filter (fun r => !p r) = (l.take j).filter fun r => !p r := by
  rw [List.take_add_one, hx, List.filter_append]; simp [hp]
theorem keep_out {l : List Rec} {p : Rec → Bool} {j : Nat} {x : Rec} (hx : l[j]? = some x) (hp : p x = false) : (l.take (j + 1)).filter (fun r => !p r) = ((l.take j).filter fun r => !p r) ++ [x] := by
  rw [List.take_add_one, hx, List.filter_append]; simp [hp]
theorem DelSt.skip {w : World} {g cap : Nat} {l : List Rec} {p : Rec → Bool} {j : Nat} (h : DelSt w g cap l p j) {x : Rec} (hx : l[j]? = some x) (hp : p x = true) : DelSt w g cap l p (j + 1) :=
  ⟨h.blk, fun q y hq => h.front q y (by rwa [keep_in hx hp] at hq), fun q y hj hq => h.back q y (by omega) hq⟩
theorem there_row {w : World} {g : Nat} {cur : Array Value} {E : TypeId} (h : w.heap[g]? = some (.cells cur E (0, 0))) {o n : Nat} (hn : o + n ≤ cur.size) : w.there g o n := fun j hj => by
  refine ⟨?_, frozen_of_row w g (o + j) cur _ h⟩
  rw [cell_of_row w g (o + j) cur _ _ h, Array.getElem?_eq_getElem (by omega)]; rfl
theorem filt_le (l : List Rec) (p : Rec → Bool) (j : Nat) : ((l.take j).filter fun r => !p r).length ≤ j := by
  refine Nat.le_trans (List.length_filter_le _ _) ?_
  rw [List.length_take]; omega
theorem DelSt.put {w : World} {g cap : Nat} {l : List Rec} {p : Rec → Bool} {j : Nat} (h : DelSt w g cap l p j) {x : Rec} (hx : l[j]? = some x) (hp : p x = false) (hc : l.length ≤ cap) :
    DelSt (w.setCells g (((l.take j).filter fun r => !p r).length * 10) (prow x)) g cap l p (j + 1) := by
  have hcj := filt_le l p j
  have hjl := (List.getElem?_eq_some_iff.1 hx).1
  obtain ⟨cur, h1, h2⟩ := h.blk
  have hfit : ((l.take j).filter fun r => !p r).length * 10 + (prow x).length ≤ cur.size := by rw [prow_len, h2]; omega
  refine ⟨?_, fun q y hq => ?_, fun q y hj hq => ?_⟩
  · obtain ⟨c, k1, k2⟩ := setCells_row2 g _ _ (prow x) _ w cur h1 hfit
    exact ⟨c, k1, by rw [k2, h2]⟩
  · rw [keep_out hx hp] at hq
    by_cases e : q < ((l.take j).filter fun r => !p r).length
    · rw [List.getElem?_append_left e] at hq
      exact World.rangeAt_setCells_apart (h.front q y hq) _ _ _ (.inr (.inl (by rw [prow_len]; omega)))
    · rw [List.getElem?_append_right (by omega)] at hq
      have hq0 := (List.getElem?_eq_some_iff.1 hq).1
      rw [List.length_singleton] at hq0
      obtain rfl : q = ((l.take j).filter fun r => !p r).length := by omega
      rw [Nat.sub_self, List.getElem?_cons_zero] at hq
      cases hq
      exact World.rangeAt_setCells_same w g _ _ (there_row h1 hfit)
  · exact World.rangeAt_setCells_apart (h.back q y (by omega) hq) _ _ _ (.inr (.inr (by rw [prow_len]; omega)))
theorem rows_flat {w : World} {g : Nat} {cur : Array Value} {E : TypeId} {fr : Nat × Nat} (h : w.heap[g]? = some (.cells cur E fr)) {L : List Rec} (hs : L.length * 10 ≤ cur.size) (hr : ∀ q x, L[q]? = some x → w.rangeAt g (q * 10) (prow x)) : cur.toList.take (L.length * 10) = L.flatMap prow := by
  apply List.ext_getElem?
  intro j
  by_cases hj : j < L.length * 10
  · obtain ⟨x, hx⟩ := some_at (l := L) (show j / 10 < L.length by omega)
    obtain ⟨u, hu⟩ := some_at (l := prow x) (show j % 10 < (prow x).length by rw [prow_len]; omega)
    have h1 := hr _ x hx _ u hu
    rw [cell_of_row w g _ cur _ _ h, show j / 10 * 10 + j % 10 = j by omega] at h1
    have h2 := flat_get prow_len L (j / 10) (j % 10) x u hx hu
    rw [show j / 10 * 10 + j % 10 = j by omega] at h2
    rw [List.getElem?_take, if_pos hj, Array.getElem?_toList, h1, h2]
  · rw [List.getElem?_take, if_neg hj, List.getElem?_eq_none (by rw [flat_len prow_len]; omega)]
theorem DelSt.start {w : World} {F : Nat → Prop} {g cap : Nat} {l : List Rec} (h : OwnR w F (.slice (some ⟨g, 0, none⟩) l.length cap) l) {p : Rec → Bool} {i : Nat} (hf : (l.take (i + 1)).filter (fun r => !p r) = l.take i) : l.length ≤ cap ∧ cap ≤ maxLen ∧ F g ∧ DelSt w g cap l p (i + 1) := by
  have hrec := h.recs
  obtain ⟨⟨⟨h1, h'⟩, h2⟩, hfit⟩ := h
  rcases h' with ⟨hv, hn⟩ | ⟨g', cap', cur, hv, hb, hh, hn, hm, hs, ht⟩
  · cases hv
  · cases hv
    have hrow : ∀ q x, l[q]? = some x → w.rangeAt g (q * 10) (prow x) := fun q x hq i u hu => by
      have hi := (List.getElem?_eq_some_iff.1 hu).1
      rw [prow_len] at hi
      have hjl := (List.getElem?_eq_some_iff.1 hq).1
      have := flat_get prow_len l q i x u hq hu
      rw [← ht, List.getElem?_take, if_pos (by omega)] at this
      rw [cell_of_row w g _ cur _ _ hh, ← Array.getElem?_toList]
      exact this
    refine ⟨hn, hm, h2 g rfl, ⟨cur, hh, hs⟩, fun q x hq => ?_, fun q x _ hq => hrow q x hq⟩
    rw [hf, List.getElem?_take] at hq
    split at hq
    · exact hrow q x hq
    · cases hq
/-- behind clear -/
theorem DelSt.done {w : World} {F : Nat → Prop} {g cap : Nat} {l : List Rec} {p : Rec → Bool} (h : DelSt w g cap l p l.length) (hfit : ∀ x ∈ l, Fits x) (hF : F g) (hc : l.length ≤ cap) (hm : cap ≤ maxLen) (zs : List Value) (hz : zs.length = (l.length - (l.filter fun r => !p r).length) * 10) :
    OwnR (w.setCells g ((l.filter fun r => !p r).length * 10) zs) F (.slice (some ⟨g, 0, none⟩) (l.filter fun r => !p r).length cap) (l.filter fun r => !p r) := by
  have hle := List.length_filter_le (fun r => !p r) l
  obtain ⟨cur, h1, h2⟩ := h.blk
  have hfr := h.front
  rw [List.take_length] at hfr
  obtain ⟨c, k1, k2⟩ := setCells_row2 g _ _ zs ((l.filter fun r => !p r).length * 10) w cur h1 (by rw [hz, h2]; omega)
  refine ⟨⟨⟨by rw [flat_len prow_len], .inr ⟨g, cap, c, rfl, Nat.zero_le _, k1, by omega, hm, by rw [k2, h2], ?_⟩⟩, fun k hk => by simp [Value.ownBlock] at hk; subst hk; exact hF⟩, fun x hx => hfit x (List.mem_filter.1 hx).1⟩
  refine rows_flat k1 (by rw [k2, h2]; omega) fun q x hq => ?_
  have hql := (List.getElem?_eq_some_iff.1 hq).1
  exact World.rangeAt_setCells_apart (hfr q x hq) _ _ _ (.inr (.inl (by rw [prow_len]; omega)))
end Go.Proofs.YtmdepmohfnficaaDoor
