/- Words for rows that the call owns from any place on, and for rows whose elements take many cells. -/
import Derived.Test.YtmdepmohfnficaaDoorMem
import Derived.Test.YtmdepmohfnficaaDoorSeq
import Derived.ArgAppend
namespace Go.Proofs.YtmdepmohfnficaaDoor
set_option linter.unusedVariables false
set_option linter.unusedSimpArgs false
open Go.RowKit

theorem setCells_row (g : Nat) (E : TypeId) (fr : Nat × Nat) : ∀ (vs : List Value) (o : Nat) (w : World) (cur : Array Value), w.heap[g]? = some (.cells cur E fr) → o + vs.length ≤ cur.size →
    ∃ cur', (w.setCells g o vs).heap[g]? = some (.cells cur' E fr) ∧ cur'.size = cur.size ∧ (∀ j, j < o → cur'[j]? = cur[j]?) ∧ ∀ j v, vs[j]? = some v → cur'[o + j]? = some v
  | [], o, w, cur, h, _ => ⟨cur, h, rfl, fun _ _ => rfl, fun j v hv => by simp at hv⟩
  | u :: r, o, w, cur, h, hl => by
    simp only [List.length_cons] at hl
    obtain ⟨c, h1, h2, h3, h4⟩ := setCells_row g E fr r (o + 1) (w.setCell ⟨g, o, none⟩ u) _ (setCell_row w g o cur E fr u h) (by simp; omega)
    refine ⟨c, h1, by simpa using h2, fun j hj => ?_, fun j v hv => ?_⟩
    · rw [h3 j (by omega), Array.getElem?_setIfInBounds, if_neg (by omega)]
    · cases j with
      | zero =>
        simp only [List.getElem?_cons_zero, Option.some.injEq] at hv
        rw [Nat.add_zero, h3 o (by omega), Array.getElem?_setIfInBounds, if_pos rfl, if_pos (by omega), hv]
      | succ j =>
        rw [List.getElem?_cons_succ] at hv
        have := h4 j v hv
        rwa [show o + (j + 1) = o + 1 + j by omega]
theorem setCells_chg {p : Nat → Prop} (g : Nat) (hg : p g) : ∀ (vs : List Value) (o : Nat) (w : World), Chg p w (w.setCells g o vs)
  | [], _, w => Chg.refl _ _
  | u :: r, o, w => ((Chg.refl p w).setCell (x := ⟨g, o, none⟩) (fun _ => hg) u).trans (setCells_chg g hg r (o + 1) _)

section
variable {α : Type} {enc : α → Value}
/-- elements from a place on of a block of F, which the call owns: they may be appended to -/
def OwnO (enc : α → Value) (E : TypeId) (w : World) (F : Nat → Prop) (v : Value) (l : List α) : Prop :=
  (v = .slice none 0 0 ∧ l = []) ∨ ∃ g o cap cur, v = .slice (some ⟨g, o, none⟩) l.length cap ∧ F g ∧ w.heap[g]? = some (.cells cur E (0, 0)) ∧ l.length ≤ cap ∧ cap ≤ maxLen ∧ o + cap ≤ cur.size ∧ ∀ j x, l[j]? = some x → cur[o + j]? = some (enc x)
theorem OwnO.of_own {E : TypeId} {w : World} {base : Nat} {v : Value} {l : List α} (h : Own enc E w base v l) : OwnO enc E w (fun k => base ≤ k) v l := by
  obtain ⟨_, h⟩ := h
  rcases h with ⟨rfl, h0⟩ | ⟨g, cap, cur, rfl, hb, hh, hn, hm, hs, ht⟩
  · exact .inl ⟨rfl, List.eq_nil_of_length_eq_zero h0⟩
  · refine .inr ⟨g, 0, cap, cur, rfl, hb, hh, hn, hm, by omega, fun j x hj => ?_⟩
    have hjl : j < l.length := (List.getElem?_eq_some_iff.1 hj).1
    have e : (cur.toList.take (l.length * 1))[j]? = (l.map enc)[j]? := by rw [ht]
    rw [List.getElem?_take, if_pos (by omega), List.getElem?_map, hj] at e
    rw [Nat.zero_add]; simpa using e
theorem OwnO.mono {E : TypeId} {w : World} {F G : Nat → Prop} {v : Value} {l : List α} (h : OwnO enc E w F v l) (hF : ∀ k, F k → G k) : OwnO enc E w G v l := by
  rcases h with h | ⟨g, o, cap, cur, h1, h2, r⟩
  · exact .inl h
  · exact .inr ⟨g, o, cap, cur, h1, hF _ h2, r⟩
theorem OwnO.lt {E : TypeId} {w : World} {F : Nat → Prop} {v : Value} {l : List α} (h : OwnO enc E w F v l) : OwnO enc E w (fun k => F k ∧ k < w.heap.size) v l := by
  rcases h with h | ⟨g, o, cap, cur, h1, h2, hh, r⟩
  · exact .inl h
  · exact .inr ⟨g, o, cap, cur, h1, ⟨h2, (Array.getElem?_eq_some_iff.1 hh).1⟩, hh, r⟩
theorem OwnO.chg {E : TypeId} {w w' : World} {F G : Nat → Prop} {v : Value} {l : List α} (h : OwnO enc E w F v l) (c : Chg G w w') (hG : ∀ k, F k → ¬ G k) : OwnO enc E w' F v l := by
  rcases h with h | ⟨g, o, cap, cur, h1, h2, hh, r⟩
  · exact .inl h
  · exact .inr ⟨g, o, cap, cur, h1, h2, by rw [c.block g (Array.getElem?_eq_some_iff.1 hh).1 (hG _ h2)]; exact hh, r⟩
theorem OwnO.ext {E : TypeId} {w w' : World} {F : Nat → Prop} {v : Value} {l : List α} (h : OwnO enc E w F v l) (e : Ext w w') : OwnO enc E w' F v l :=
  h.chg (G := fun _ => False) (Chg.of_ext e) fun _ _ => id
theorem OwnO.sl {E : TypeId} {w : World} {F : Nat → Prop} {v : Value} {l : List α} (h : OwnO enc E w F v l) : Sl enc w v l := by
  rcases h with ⟨rfl, rfl⟩ | ⟨g, o, cap, cur, rfl, h2, hh, hn, hm, hs, hc⟩
  · exact Sl.nil w
  · exact ⟨_, cap, rfl, hn, hm, fun h => by simp at h, fun j x hj => ⟨g, o, rfl, by rw [cell_of_row w g (o + j) cur _ _ hh, hc j x hj]⟩⟩
theorem OwnO.shape {E : TypeId} {w : World} {F : Nat → Prop} {v : Value} {l : List α} (h : OwnO enc E w F v l) : ∃ a cap, v = .slice a l.length cap := by
  rcases h with ⟨rfl, rfl⟩ | ⟨g, o, cap, cur, rfl, _⟩
  · exact ⟨none, 0, rfl⟩
  · exact ⟨_, cap, rfl⟩
/-- without the first one -/
theorem OwnO.tail {E : TypeId} {w : World} {F : Nat → Prop} {a : Option Addr} {n cap : Nat} {x : α} {l : List α} (h : OwnO enc E w F (.slice a n cap) (x :: l)) : OwnO enc E w F (sliced a 1 n cap 1) l := by
  rcases h with ⟨_, h⟩ | ⟨g, o, c, cur, h1, h2, hh, hn, hm, hs, hc⟩
  · cases h
  · cases h1
    simp only [List.length_cons] at hn
    unfold sliced
    by_cases h : cap = 1
    · subst h
      obtain rfl : l = [] := List.eq_nil_of_length_eq_zero (by omega)
      exact .inr ⟨g, o, 0, cur, rfl, h2, hh, Nat.le_refl _, by simp [maxLen], by omega, fun j x hj => by simp at hj⟩
    · rw [if_neg h]
      refine .inr ⟨g, o + 1, cap - 1, cur, by simp [Addr.add_lit], h2, hh, by omega, by omega, by omega, fun j y hj => ?_⟩
      have := hc (j + 1) y (by simpa using hj)
      rwa [show o + 1 + j = o + (j + 1) by omega]

/-- 'append(s, x...)', s the call's own from a place on (or nil), x any of its kind -/
theorem wpList_appendO {P : Program} {E T : TypeId} {z : Value} {bytes : Nat} (hT : P.underlying T = some (.slice E)) (hI : (P.info? E).map (fun i => (i.zero, i.size, i.bytes)) = some (some z, 1, bytes)) (hz : z.cells.size = 1)
    (h1 : ∀ x, (enc x).oneCell' = true)
    {ops : Array Oper} {rest : List Oper} {o : Oper} {a : Act} {w : World} {Q : Exit → Act → World → Prop} (hgd : o.guard = none) (s x : Operand)
    (ho : o.op = .call { callee := .builtin .append, args := #[s, x], argTypes := #[T, T] })
    (F : Nat → Prop) (v : Value) (l : List α) (hs : a.eval s = v) (hown : OwnO enc E w F v l) (u : Value) (m : List α) (hx : a.eval x = u) (hb : Sl enc w u m)
    (hlen : l.length + m.length ≤ 9223372036854775807) (hsz : (l.length + m.length) * bytes ≤ 140737488355328)
    (h : ∀ v' w', OwnO enc E w' (fun k => F k ∨ w.heap.size ≤ k) v' (l ++ m) → Chg F w w' → wpList P ops Q rest (a.put o.dst v') w') : wpList P ops Q (o :: rest) a w := by
  obtain ⟨i, hi, hz0, hz1, hz2⟩ := info_parts hI
  obtain ⟨ax, cx, rfl, hle, hcm, hnone, hcells⟩ := hb
  cases ax with
  | none =>
    have hc := hnone rfl
    subst hc
    have hm : m = [] := List.eq_nil_of_length_eq_zero (by omega)
    subst hm
    have hr : (Builtin.append_ #[T, T] o.type #[v, .slice none 0 0]).run P w = .ok v w := by
      rcases hown with ⟨rfl, rfl⟩ | ⟨g, of, cap, cur, rfl, _, _, hnc, _⟩
      · simp [Builtin.append_, run_underlying hT, sizeOf, typeInfo, hi, Builtin.lenOf, Builtin.firstCells]
      · simp [Builtin.append_, run_underlying hT, sizeOf, typeInfo, hi, Builtin.lenOf, Builtin.firstCells, hnc, storeCells]
    refine wpList_plain hgd fun _ hK => ?_
    unfold Oper.wp execOp
    simp only [ho, resolve, invoke, builtin, Sem.run_bind, Sem.run_pure, Result.andThen_ok, List.map_toArray, List.map_cons, List.map_nil, hs, hx, List.length_nil, hr]
    exact hK _ _ (h v w (by rw [List.append_nil]; exact hown.mono fun _ => Or.inl) (Chg.refl _ _))
  | some ad =>
    have hnews : ∀ j u, (m.map enc)[j]? = some u → w.cell? (ad.add j) = some u := fun j u hu => by
      rw [List.getElem?_map] at hu
      obtain ⟨x, hx, rfl⟩ := Option.map_eq_some_iff.1 hu
      obtain ⟨g, o', e, hc⟩ := hcells j x hx
      cases e
      rw [Addr.add_lit, hc]
    have hone : ∀ u ∈ m.map enc, u.oneCell' = true := fun u hu => by
      obtain ⟨c, _, rfl⟩ := List.mem_map.1 hu
      exact h1 c
    rcases hown with ⟨rfl, rfl⟩ | ⟨g, of, cap, cur, rfl, hF, hh, hn, hm, hso, hc⟩
    · refine wpList_plain hgd fun _ hK => ?_
      refine wp_append_own w s x T ho w.heap.size E i z 1 bytes hT hi hz0 hz1 hz2 hz (by decide) _ 0 [] hs (World.ownsRow_nil w _ E 1) ad m.length cx (m.map enc) hx (by simp) hnews hone (by unfold maxLen; simp at hlen; omega) (by simpa using hsz) (Nat.le_refl _) ?_
      intro v' w' g1 g2 _
      have g3 : Own enc E w' w.heap.size v' m := by simpa [Own] using g1
      exact hK _ _ (h v' w' ((OwnO.of_own g3).mono fun _ => Or.inr) ((Chg.refl F w).grown g2 fun k hk => by simp [Value.ownBlock] at hk))
    · refine wpList_append_arg w hgd s x T ho E i z 1 bytes hT hi hz0 hz1 hz2 hz (by decide) g of l.length cap (l.map enc) hs (by simp) ?_ ad m.length cx (m.map enc) hx (by simp) hnews hone ?_ (by unfold maxLen; omega) hsz ?_ ?_
      · intro j u hu
        rw [List.getElem?_map] at hu
        obtain ⟨x, hx, rfl⟩ := Option.map_eq_some_iff.1 hu
        rw [cell_of_row w g (of + j) cur _ _ hh, hc j x hx]
      · intro hr j hj
        simp only [List.length_map] at hj
        refine ⟨?_, by simp [World.frozen?, hh]⟩
        rw [cell_of_row w g _ cur _ _ hh, Array.getElem?_eq_getElem (by omega)]; rfl
      · intro hr
        rw [Nat.mul_one]
        obtain ⟨c', k1, k2, k3, k4⟩ := setCells_row g E (0, 0) (m.map enc) (of + l.length) w cur hh (by simp; omega)
        refine h _ _ (.inr ⟨g, of, cap, c', by rw [List.length_append], Or.inl hF, k1, by rw [List.length_append]; exact hr, hm, by omega, fun j x hj => ?_⟩) (setCells_chg g hF _ _ _)
        by_cases hjl : j < l.length
        · rw [List.getElem?_append_left hjl] at hj
          rw [k3 _ (by omega), hc j x hj]
        · rw [List.getElem?_append_right (by omega)] at hj
          have := k4 (j - l.length) (enc x) (by rw [List.getElem?_map, hj]; rfl)
          rwa [show of + l.length + (j - l.length) = of + j by omega] at this
      · intro hr v' w' g1 g2
        have g3 : Own enc E w' w.heap.size v' (l ++ m) := by unfold Own; rw [List.length_append, List.map_append]; exact g1
        exact h v' w' ((OwnO.of_own g3).mono fun _ => Or.inr) ((Chg.refl F w).grown g2 fun k hk => by cases hk)
end


/-! ### rows whose elements take many cells -/
/-- n elements of size cells each, which the call owns within F: they may be appended to -/
def OwnF (E : TypeId) (size : Nat) (w : World) (F : Nat → Prop) (v : Value) (n : Nat) (xs : List Value) : Prop := w.ownsRow 0 E size v n xs ∧ ∀ k, v.ownBlock = some k → F k
theorem OwnF.nil (E : TypeId) (size : Nat) (w : World) (F : Nat → Prop) : OwnF E size w F (.slice none 0 0) 0 [] := ⟨World.ownsRow_nil w 0 E size, fun k h => by simp [Value.ownBlock] at h⟩
theorem OwnF.mono {E : TypeId} {size : Nat} {w : World} {F G : Nat → Prop} {v : Value} {n : Nat} {xs : List Value} (h : OwnF E size w F v n xs) (hF : ∀ k, F k → G k) : OwnF E size w G v n xs := ⟨h.1, fun k hk => hF k (h.2 k hk)⟩
theorem OwnF.lt {E : TypeId} {size : Nat} {w : World} {F : Nat → Prop} {v : Value} {n : Nat} {xs : List Value} (h : OwnF E size w F v n xs) : OwnF E size w (fun k => F k ∧ k < w.heap.size) v n xs := ⟨h.1, fun k hk => ⟨h.2 k hk, (World.ownsRow.lt h.1 k hk).2⟩⟩
theorem OwnF.chg {E : TypeId} {size : Nat} {w w' : World} {F G : Nat → Prop} {v : Value} {n : Nat} {xs : List Value} (h : OwnF E size w F v n xs) (c : Chg G w w') (hG : ∀ g cur, w.heap[g]? = some (.cells cur E (0, 0)) → F g → ¬ G g) : OwnF E size w' F v n xs := by
  obtain ⟨⟨h1, h⟩, h2⟩ := h
  refine ⟨⟨h1, ?_⟩, h2⟩
  rcases h with h | ⟨g, cap, cur, rfl, hb, hh, r⟩
  · exact .inl h
  · exact .inr ⟨g, cap, cur, rfl, hb, by rw [c.block g (Array.getElem?_eq_some_iff.1 hh).1 (hG g cur hh (h2 g rfl))]; exact hh, r⟩
theorem OwnF.ext {E : TypeId} {size : Nat} {w w' : World} {F : Nat → Prop} {v : Value} {n : Nat} {xs : List Value} (h : OwnF E size w F v n xs) (e : Ext w w') : OwnF E size w' F v n xs := h.chg (G := fun _ => False) (Chg.of_ext e) fun _ _ _ _ => id
theorem OwnF.shape {E : TypeId} {size : Nat} {w : World} {F : Nat → Prop} {v : Value} {n : Nat} {xs : List Value} (h : OwnF E size w F v n xs) (hs : 0 < size) : ∃ a cap, v = .slice a n cap ∧ n ≤ maxLen ∧ (0 < n → ∃ g cur, a = some ⟨g, 0, none⟩ ∧ F g ∧ w.heap[g]? = some (.cells cur E (0, 0)) ∧ cur.toList.take (n * size) = xs) := by
  obtain ⟨⟨h1, h⟩, h2⟩ := h
  rcases h with ⟨rfl, rfl⟩ | ⟨g, cap, cur, rfl, hb, hh, hn, hm, hsz, ht⟩
  · exact ⟨none, 0, rfl, by simp [maxLen], fun h => absurd h (by omega)⟩
  · exact ⟨_, cap, rfl, Nat.le_trans hn hm, fun _ => ⟨g, cur, rfl, h2 g rfl, hh, ht⟩⟩
/-- 'append(s, x...)', s the call's own within F (or nil), its elements of many cells -/
theorem run_appendF {P : Program} {E T : TypeId} {z : Value} {size bytes : Nat} (hT : P.underlying T = some (.slice E)) (hI : (P.info? E).map (fun i => (i.zero, i.size, i.bytes)) = some (some z, size, bytes)) (hz : z.cells.size = size) (hs0 : 0 < size)
    (ty : TypeId) (w : World) (F : Nat → Prop) (v : Value) (n : Nat) (xs : List Value) (hown : OwnF E size w F v n xs) (ad : Addr) (m c : Nat) (news : List Value) (hl : news.length = m * size) (hnews : ∀ j u, news[j]? = some u → w.cell? (ad.add j) = some u) (hone : ∀ u ∈ news, u.oneCell' = true)
    (hlen : n + m ≤ maxLen) (hsz : (n + m) * bytes ≤ 140737488355328) :
    ∃ v' w', (Builtin.append_ #[T, T] ty #[v, .slice (some ad) m c]).run P w = .ok v' w' ∧ OwnF E size w' (fun k => F k ∨ w.heap.size ≤ k) v' (n + m) (xs ++ news) ∧ Chg F w w' := by
  obtain ⟨i, hi, hz0, hz1, hz2⟩ := info_parts hI
  obtain ⟨⟨h1, h⟩, h2⟩ := hown
  rcases h with ⟨rfl, rfl⟩ | ⟨g, cap, cur, rfl, hb, hh, hn, hm, hcs, ht⟩
  · obtain rfl : xs = [] := List.eq_nil_of_length_eq_zero (by omega)
    obtain ⟨v', w', hr, g1, g2, _⟩ := run_append_own (P := P) w w.heap.size T ty E i z size bytes hT hi hz0 hz1 hz2 hz hs0 _ 0 [] (World.ownsRow_nil w _ E size) ad m c news hl hnews hone hlen hsz (Nat.le_refl _)
    refine ⟨v', w', hr, ⟨⟨g1.1, ?_⟩, fun k hk => .inr (World.ownsRow.lt g1 k hk).1⟩, (Chg.refl F w).grown g2 fun k hk => by simp [Value.ownBlock] at hk⟩
    rcases g1.2 with h | ⟨g, cap, cur, e, _, r⟩
    · exact .inl h
    · exact .inr ⟨g, cap, cur, e, Nat.zero_le _, r⟩
  · by_cases hr : n + m ≤ cap
    · have hcell : ∀ j, j < news.length → w.cell? ⟨g, 0 + n * size + j, none⟩ = cur[n * size + j]? := fun j _ => by rw [cell_of_row w g _ cur _ _ hh, Nat.zero_add]
      have hfit : n * size + news.length ≤ cur.size := by
        rw [hl, hcs, ← Nat.add_mul]; exact Nat.mul_le_mul_right _ hr
      have hrun := run_append_room_cells (P := P) w T ty E i hT hi g 0 n cap ad m c news (by rw [hz1]; exact hl) hnews hone hr (fun j hj => by rw [hz1, hcell j hj, Array.getElem?_eq_getElem (by omega)]; rfl) (fun j hj => by simp [World.frozen?, hh])
      rw [hz1] at hrun
      obtain ⟨c', k1, k2, k3, k4⟩ := setCells_row g E (0, 0) news (0 + n * size) w cur hh (by omega)
      refine ⟨_, _, hrun, ⟨⟨by rw [List.length_append, h1, hl, ← Nat.add_mul], .inr ⟨g, cap, c', rfl, Nat.zero_le _, k1, hr, hm, by rw [k2, hcs], ?_⟩⟩, fun k hk => .inl (h2 k hk)⟩, setCells_chg g (h2 g rfl) _ _ _⟩
      apply List.ext_getElem?
      intro j
      have hx : xs.length = n * size := h1
      rw [List.getElem?_take]
      by_cases hj : j < xs.length
      · rw [if_pos (by rw [Nat.add_mul]; omega), List.getElem?_append_left hj, Array.getElem?_toList, k3 j (by omega), ← ht, List.getElem?_take, if_pos (by omega), Array.getElem?_toList]
      · rw [List.getElem?_append_right (by omega)]
        by_cases hj2 : j < (n + m) * size
        · rw [if_pos hj2, Array.getElem?_toList]
          have hjl : j - xs.length < news.length := by rw [hl]; rw [Nat.add_mul] at hj2; omega
          have := k4 (j - xs.length) _ (List.getElem?_eq_getElem hjl)
          rw [show 0 + n * size + (j - xs.length) = j by omega] at this
          rw [this, List.getElem?_eq_getElem hjl]
        · rw [if_neg hj2, List.getElem?_eq_none (by rw [hl]; rw [Nat.add_mul] at hj2; omega)]
    · obtain ⟨v', w', hrun, r1, r2⟩ := run_append_arg_grows (P := P) w T ty E i z size bytes hT hi hz0 hz1 hz2 hz hs0 ⟨g, 0, none⟩ n cap xs h1 (fun j u hj => by
        rw [Addr.add_lit, cell_of_row w g _ cur _ _ hh, Nat.zero_add, ← Array.getElem?_toList]
        rw [← ht] at hj
        rw [List.getElem?_take] at hj
        split at hj
        · exact hj
        · cases hj) ad m c news hl hnews (by omega) hlen hsz
      refine ⟨v', w', hrun, ⟨⟨r1.1, ?_⟩, fun k hk => .inr (World.ownsRow.lt r1 k hk).1⟩, (Chg.refl F w).grown r2 fun k hk => by cases hk⟩
      rcases r1.2 with h | ⟨g, cap, cur, e, _, r⟩
      · exact .inl h
      · exact .inr ⟨g, cap, cur, e, Nat.zero_le _, r⟩
end Go.Proofs.YtmdepmohfnficaaDoor
