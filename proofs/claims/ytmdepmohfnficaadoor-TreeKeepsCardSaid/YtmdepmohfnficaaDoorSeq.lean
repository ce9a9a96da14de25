/- Words for slices whose elements take one cell each, whatever they are. -/
import Derived.Test.YtmdepmohfnficaaDoorBase
namespace Go.Proofs.YtmdepmohfnficaaDoor
set_option linter.unusedVariables false
set_option linter.unusedSimpArgs false
open Go.RowKit

section
variable {α : Type} {enc : α → Value}
/-- a slice's parts, and what is read through it -/
structure SlAt (enc : α → Value) (w : World) (a : Option Addr) (cap : Nat) (l : List α) : Prop where
  le : l.length ≤ cap
  capm : cap ≤ maxLen
  none : a = none → cap = 0
  cells : ∀ j x, l[j]? = some x → ∃ g o, a = some ⟨g, o, Option.none⟩ ∧ w.cell? ⟨g, o + j, Option.none⟩ = some (enc x)
theorem SlAt.len {w : World} {a : Option Addr} {cap : Nat} {l : List α} (h : SlAt enc w a cap l) : l.length ≤ 9223372036854775807 := by
  have h1 := h.le; have h2 := h.capm; unfold maxLen at h2; omega
theorem SlAt.ext {w w' : World} {a : Option Addr} {cap : Nat} {l : List α} (h : SlAt enc w a cap l) (e : Ext w w') : SlAt enc w' a cap l :=
  ⟨h.le, h.capm, h.none, fun j x hj => let ⟨g, o, h1, h2⟩ := h.cells j x hj; ⟨g, o, h1, e.cell h2⟩⟩
/-- the value reads as these elements -/
def Sl (enc : α → Value) (w : World) (v : Value) (l : List α) : Prop := ∃ a cap, v = .slice a l.length cap ∧ SlAt enc w a cap l
theorem Sl.ext {w w' : World} {v : Value} {l : List α} (h : Sl enc w v l) (e : Ext w w') : Sl enc w' v l :=
  let ⟨a, cap, h1, h2⟩ := h; ⟨a, cap, h1, h2.ext e⟩
theorem Sl.nil (w : World) : Sl enc w (.slice none 0 0) [] := ⟨none, 0, rfl, Nat.le_refl _, by simp [maxLen], fun _ => rfl, fun j x h => by simp at h⟩
theorem Sl.lit {w : World} {C : Array Value} {e : TypeId} {fr : Nat × Nat} {g n cap : Nat} {l : List α} (hg : g = w.heap.size) (hC : C.toList = l.map enc) (hn : n = l.length) (hc : n ≤ cap) (hm : cap ≤ maxLen) :
    Sl enc (w.alloc (.cells C e fr)) (.slice (some ⟨g, 0, none⟩) n cap) l := by
  subst hg
  refine ⟨_, _, by rw [hn], by omega, hm, fun h => by simp at h, fun j x hj => ⟨w.heap.size, 0, rfl, ?_⟩⟩
  have : (w.alloc (.cells C e fr)).heap[w.heap.size]? = some (.cells C e fr) := by
    show (w.heap.push _)[w.heap.size]? = _
    simp
  rw [cell_of_row _ _ _ _ _ _ this, Nat.zero_add]
  have h2 : C.toList[j]? = (l.map enc)[j]? := by rw [hC]
  rw [List.getElem?_map, hj] at h2
  simpa using h2

/-- elements that the call owns from a block on: they may be appended to -/
def Own (enc : α → Value) (E : TypeId) (w : World) (base : Nat) (v : Value) (l : List α) : Prop := w.ownsRow base E 1 v l.length (l.map enc)
theorem Own.shape {E : TypeId} {w : World} {base : Nat} {v : Value} {l : List α} (h : Own enc E w base v l) : ∃ a cap, v = .slice a l.length cap ∧ SlAt enc w a cap l ∧ ∀ k, v.ownBlock = some k → base ≤ k := by
  obtain ⟨_, h⟩ := h
  rcases h with ⟨rfl, h0⟩ | ⟨g, cap, cur, rfl, hb, hh, hn, hm, hs, ht⟩
  · have : l = [] := List.eq_nil_of_length_eq_zero h0
    subst this
    exact ⟨none, 0, rfl, ⟨Nat.le_refl _, by simp [maxLen], fun _ => rfl, fun j x h => by simp at h⟩, fun k hk => by simp [Value.ownBlock] at hk⟩
  · refine ⟨some ⟨g, 0, none⟩, cap, rfl, ⟨hn, hm, fun h => by simp at h, fun j x hj => ⟨g, 0, rfl, ?_⟩⟩, fun k hk => by simp [Value.ownBlock] at hk; omega⟩
    have hjl : j < l.length := (List.getElem?_eq_some_iff.1 hj).1
    rw [cell_of_row w g (0 + j) cur _ _ hh]
    have e : (cur.toList.take (l.length * 1))[j]? = (l.map enc)[j]? := by rw [ht]
    rw [List.getElem?_take, if_pos (by omega), List.getElem?_map, hj] at e
    simpa using e
theorem Own.sl {E : TypeId} {w : World} {base : Nat} {v : Value} {l : List α} (h : Own enc E w base v l) : Sl enc w v l :=
  let ⟨a, cap, h1, h2, _⟩ := h.shape; ⟨a, cap, h1, h2⟩
theorem Own.nil (E : TypeId) (w : World) (base : Nat) : Own enc E w base (.slice none 0 0) [] := World.ownsRow_nil w base E 1
theorem Own.alloc {E : TypeId} {w : World} {base : Nat} {v : Value} {l : List α} (h : Own enc E w base v l) (o : Obj) : Own enc E (w.alloc o) base v l := World.ownsRow.alloc h o
theorem Own.drew {E : TypeId} {w : World} {base : Nat} {v : Value} {l : List α} (h : Own enc E w base v l) : Own enc E w.drew base v l := World.ownsRow.drew h
theorem Own.lt {E : TypeId} {w : World} {base : Nat} {v : Value} {l : List α} (h : Own enc E w base v l) : ∀ k, v.ownBlock = some k → base ≤ k := fun k hk => (World.ownsRow.lt h k hk).1
theorem Own.empty {E : TypeId} {w : World} {base g : Nat} (hg : g = w.heap.size) (hb : base ≤ w.heap.size) : Own enc E (w.alloc (.cells #[] E)) base (.slice (some ⟨g, 0, none⟩) 0 0) [] := by
  subst hg; exact World.ownsRow_made w #[] 0 hb (by simp [maxLen]) rfl
theorem Own.ext {E : TypeId} {w w' : World} {base : Nat} {v : Value} {l : List α} (h : Own enc E w base v l) (e : Ext w w') : Own enc E w' base v l := by
  obtain ⟨h1, h⟩ := h
  refine ⟨h1, ?_⟩
  rcases h with ⟨rfl, h0⟩ | ⟨g, cap, cur, rfl, hb, hh, r⟩
  · exact .inl ⟨rfl, h0⟩
  · exact .inr ⟨g, cap, cur, rfl, hb, e.heap hh, r⟩
theorem Ext.owns {E : TypeId} {a w w' : World} {v : Value} {l : List α} (h : Ext a w) (ho : Own enc E w a.heap.size v l) (hg : w.grownBy w' v.ownBlock) : Ext a w' := h.grown hg ho.lt

/-- 'append(s, x...)', s the call's own (or nil), x any of its kind -/
theorem wp_appendS {P : Program} {E T : TypeId} {z : Value} {bytes : Nat} (hT : P.underlying T = some (.slice E)) (hI : (P.info? E).map (fun i => (i.zero, i.size, i.bytes)) = some (some z, 1, bytes)) (hz : z.cells.size = 1)
    (h1 : ∀ x, (enc x).oneCell' = true)
    {o : Oper} {a : Act} {w : World} {K : Act → World → Prop} {Q : Exit → Act → World → Prop} (s x : Operand)
    (ho : o.op = .call { callee := .builtin .append, args := #[s, x], argTypes := #[T, T] })
    (base : Nat) (v : Value) (l : List α) (hs : a.eval s = v) (hown : Own enc E w base v l) (u : Value) (m : List α) (hx : a.eval x = u) (hb : Sl enc w u m)
    (hlen : l.length + m.length ≤ 9223372036854775807) (hsz : (l.length + m.length) * bytes ≤ 140737488355328) (hbase : base ≤ w.heap.size)
    (h : ∀ v' w', Own enc E w' base v' (l ++ m) → w.grownBy w' v.ownBlock → K (a.put o.dst v') w') : o.wp P a w K Q := by
  obtain ⟨i, hi, hz0, hz1, hz2⟩ := info_parts hI
  obtain ⟨ax, cx, rfl, hle, hcm, hnone, hcells⟩ := hb
  cases ax with
  | none =>
    have hc := hnone rfl
    subst hc
    have hm : m = [] := List.eq_nil_of_length_eq_zero (by omega)
    subst hm
    have hr := run_append_owned_none (P := P) w base T o.type E i 1 hT hi v _ _ hown
    unfold Oper.wp execOp
    simp only [ho, resolve, invoke, builtin, Sem.run_bind, Sem.run_pure, Result.andThen_ok, List.map_toArray, List.map_cons, List.map_nil, hs, hx, List.length_nil, hr]
    exact h v w (by simpa using hown) ⟨rfl, rfl, rfl, Nat.le_refl _, fun _ _ _ => rfl⟩
  | some ad =>
    refine wp_append_own w s x T ho base E i z 1 bytes hT hi hz0 hz1 hz2 hz (by decide) v l.length _ hs hown ad m.length cx (m.map enc) hx (by simp) ?_ ?_ (by unfold maxLen; omega) hsz hbase ?_
    · intro j u hu
      rw [List.getElem?_map] at hu
      obtain ⟨x, hx, rfl⟩ := Option.map_eq_some_iff.1 hu
      obtain ⟨g, o', e, hc⟩ := hcells j x hx
      cases e
      rw [Addr.add_lit, hc]
    · intro u hu
      obtain ⟨c, _, rfl⟩ := List.mem_map.1 hu
      exact h1 c
    · intro v' w' g1 g2 _
      exact h v' w' (by unfold Own; rw [List.length_append, List.map_append]; exact g1) g2
theorem wpList_appendS {P : Program} {E T : TypeId} {z : Value} {bytes : Nat} (hT : P.underlying T = some (.slice E)) (hI : (P.info? E).map (fun i => (i.zero, i.size, i.bytes)) = some (some z, 1, bytes)) (hz : z.cells.size = 1)
    (h1 : ∀ x, (enc x).oneCell' = true)
    {ops : Array Oper} {rest : List Oper} {o : Oper} {a : Act} {w : World} {Q : Exit → Act → World → Prop} (hgd : o.guard = none) (s x : Operand)
    (ho : o.op = .call { callee := .builtin .append, args := #[s, x], argTypes := #[T, T] })
    (base : Nat) (v : Value) (l : List α) (hs : a.eval s = v) (hown : Own enc E w base v l) (u : Value) (m : List α) (hx : a.eval x = u) (hb : Sl enc w u m)
    (hlen : l.length + m.length ≤ 9223372036854775807) (hsz : (l.length + m.length) * bytes ≤ 140737488355328) (hbase : base ≤ w.heap.size)
    (h : ∀ v' w', Own enc E w' base v' (l ++ m) → w.grownBy w' v.ownBlock → wpList P ops Q rest (a.put o.dst v') w') : wpList P ops Q (o :: rest) a w :=
  wpList_plain hgd fun _ hK => wp_appendS hT hI hz h1 s x ho base v l hs hown u m hx hb hlen hsz hbase fun v' w' g1 g2 => hK _ _ (h v' w' g1 g2)
end
end Go.Proofs.YtmdepmohfnficaaDoor
