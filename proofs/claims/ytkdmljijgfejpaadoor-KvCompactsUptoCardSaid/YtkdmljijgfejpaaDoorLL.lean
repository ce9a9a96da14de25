/- Slices of slices of bytes: read, and owned by the call. -/
import Derived.Test.YtkdmljijgfejpaaDoorMem
import Derived.Test.YtkdmljijgfejpaaDoorSeq
import Derived.Maps.AppendAt
namespace Go.Proofs.YtkdmljijgfejpaaDoor
set_option linter.unusedVariables false
set_option linter.unusedSimpArgs false
open Go.RowKit

/-- where a slice lies -/
def vblk : Value → Option Nat
  | .slice (some a) _ _ => some a.block
  | _ => none
theorem Bytes.grown {w w' : World} {x : Value} {l : List UInt8} {row : Option Nat} (h : Bytes w x l) (hg : w.grownBy w' row) (hn : ∀ k, vblk x = some k → l ≠ [] → row ≠ some k) : Bytes w' x l := by
  obtain ⟨a, cap, rfl, h⟩ := h
  refine ⟨a, cap, rfl, h.le, h.capm, h.none, fun j hj => ?_⟩
  obtain ⟨g, o, rfl, hc⟩ := h.cells j hj
  refine ⟨g, o, rfl, ?_⟩
  have hl : g < w.heap.size := World.block_lt_of_cell? w _ hc
  have hb := hg.block g hl (fun e => hn g rfl (fun e2 => by subst e2; simp at hj) e.symm)
  exact (World.cell?_of_block hb).trans hc
theorem Bytes.chgV {w w' : World} {x : Value} {l : List UInt8} {F : Nat → Prop} (h : Bytes w x l) (c : Chg F w w') (hn : ∀ k, vblk x = some k → l ≠ [] → ¬ F k) : Bytes w' x l := by
  obtain ⟨a, cap, rfl, h⟩ := h
  refine ⟨a, cap, rfl, h.le, h.capm, h.none, fun j hj => ?_⟩
  obtain ⟨g, o, rfl, hc⟩ := h.cells j hj
  refine ⟨g, o, rfl, ?_⟩
  have hl : g < w.heap.size := World.block_lt_of_cell? w _ hc
  exact (World.cell?_of_block (c.block g hl (hn g rfl (fun e2 => by subst e2; simp at hj)))).trans hc
theorem Bytes.blk_lt {w : World} {x : Value} {l : List UInt8} (h : Bytes w x l) (hl : l ≠ []) : ∀ k, vblk x = some k → k < w.heap.size := by
  intro k hk
  obtain ⟨a, cap, rfl, h⟩ := h
  obtain ⟨g, o, rfl, hc⟩ := h.cells 0 (by cases l with | nil => exact absurd rfl hl | cons => simp)
  simp only [vblk, Option.some.injEq] at hk
  subst hk
  exact World.block_lt_of_cell? w _ hc

/-- the value reads as these lists of bytes -/
def LL (w : World) (v : Value) (ls : List (List UInt8)) : Prop :=
  ∃ a cap, v = .slice a ls.length cap ∧ ls.length ≤ cap ∧ cap ≤ maxLen ∧ (a = none → cap = 0) ∧ ∀ j l, ls[j]? = some l → ∃ g o x, a = some ⟨g, o, none⟩ ∧ w.cell? ⟨g, o + j, none⟩ = some x ∧ Bytes w x l
theorem LL.ext {w w' : World} {v : Value} {ls : List (List UInt8)} (h : LL w v ls) (e : Ext w w') : LL w' v ls := by
  obtain ⟨a, cap, h1, h2, h3, h4, h5⟩ := h
  refine ⟨a, cap, h1, h2, h3, h4, fun j l hj => ?_⟩
  obtain ⟨g, o, x, k1, k2, k3⟩ := h5 j l hj
  exact ⟨g, o, x, k1, e.cell k2, k3.ext e⟩
theorem LL.nil (w : World) : LL w (.slice none 0 0) [] := ⟨none, 0, rfl, Nat.le_refl _, by simp [maxLen], fun _ => rfl, fun j l h => by simp at h⟩
/-- owned from base on, the lists themselves in blocks of G -/
def OwnLL (w : World) (base : Nat) (G : Nat → Prop) (v : Value) (ls : List (List UInt8)) : Prop :=
  ∃ vs : List Value, w.ownsRow base 23 1 v ls.length vs ∧ ∀ (j : Nat) (l : List UInt8), ls[j]? = some l → ∃ x, vs[j]? = some x ∧ x.oneCell' = true ∧ Bytes w x l ∧ ∀ k, vblk x = some k → l ≠ [] → G k ∧ v.ownBlock ≠ some k
theorem OwnLL.nil (w : World) (base : Nat) (G : Nat → Prop) : OwnLL w base G (.slice none 0 0) [] := ⟨[], World.ownsRow_nil w base _ 1, fun j l h => by simp at h⟩
theorem OwnLL.ext {w w' : World} {base : Nat} {G : Nat → Prop} {v : Value} {ls : List (List UInt8)} (h : OwnLL w base G v ls) (e : Ext w w') : OwnLL w' base G v ls := by
  obtain ⟨vs, ⟨h1, h2⟩, h3⟩ := h
  refine ⟨vs, ⟨h1, ?_⟩, fun j l hj => ?_⟩
  · rcases h2 with h | ⟨g, cap, cur, k1, k2, k3, r⟩
    · exact .inl h
    · exact .inr ⟨g, cap, cur, k1, k2, e.heap k3, r⟩
  · obtain ⟨x, k1, k2, k3, k4⟩ := h3 j l hj
    exact ⟨x, k1, k2, k3.ext e, k4⟩
theorem OwnLL.chg {w w' : World} {base : Nat} {F G : Nat → Prop} {v : Value} {ls : List (List UInt8)} (h : OwnLL w base G v ls) (c : Chg F w w') (hb : ∀ k, base ≤ k → k < w.heap.size → ¬ F k) (hG : ∀ k, G k → k < w.heap.size → ¬ F k) : OwnLL w' base G v ls := by
  obtain ⟨vs, ⟨h1, h2⟩, h3⟩ := h
  refine ⟨vs, ⟨h1, ?_⟩, fun j l hj => ?_⟩
  · rcases h2 with h | ⟨g, cap, cur, k1, k2, k3, r⟩
    · exact .inl h
    · have hl := (Array.getElem?_eq_some_iff.1 k3).1
      exact .inr ⟨g, cap, cur, k1, k2, by rw [c.block g hl (hb g k2 hl)]; exact k3, r⟩
  · obtain ⟨x, k1, k2, k3, k4⟩ := h3 j l hj
    exact ⟨x, k1, k2, k3.chgV c fun k hk hl => hG k (k4 k hk hl).1 (k3.blk_lt hl k hk), k4⟩
theorem OwnLL.own_lt {w : World} {base : Nat} {G : Nat → Prop} {v : Value} {ls : List (List UInt8)} (h : OwnLL w base G v ls) : ∀ k, v.ownBlock = some k → base ≤ k ∧ k < w.heap.size := by
  obtain ⟨vs, h1, _⟩ := h
  exact fun k hk => World.ownsRow.lt h1 k hk
theorem OwnLL.get {w : World} {base : Nat} {G : Nat → Prop} {v : Value} {ls : List (List UInt8)} (h : OwnLL w base G v ls) : ∃ a cap, v = .slice a ls.length cap ∧ ls.length ≤ cap ∧ cap ≤ maxLen ∧ (a = none → cap = 0) ∧ ∀ j l, ls[j]? = some l → ∃ g x, a = some ⟨g, 0, none⟩ ∧ base ≤ g ∧ w.cell? ⟨g, j, none⟩ = some x ∧ Bytes w x l ∧ ∀ k, vblk x = some k → l ≠ [] → G k := by
  obtain ⟨vs, ⟨h1, h2⟩, h3⟩ := h
  rcases h2 with ⟨rfl, hn⟩ | ⟨g, cap, cur, rfl, hb, hh, hn, hm, hs, ht⟩
  · obtain rfl : ls = [] := List.eq_nil_of_length_eq_zero hn
    exact ⟨none, 0, rfl, Nat.le_refl _, by simp [maxLen], fun _ => rfl, fun j l h => by simp at h⟩
  · refine ⟨_, cap, rfl, hn, hm, fun h => by simp at h, fun j l hj => ?_⟩
    obtain ⟨x, k1, k2, k3, k4⟩ := h3 j l hj
    refine ⟨g, x, rfl, hb, ?_, k3, fun k hk hl => (k4 k hk hl).1⟩
    have hjl : j < ls.length := (List.getElem?_eq_some_iff.1 hj).1
    rw [← ht, List.getElem?_take, if_pos (by omega)] at k1
    rw [cell_of_row w g j cur _ _ hh, ← Array.getElem?_toList]
    exact k1
theorem OwnLL.ll {w : World} {base : Nat} {G : Nat → Prop} {v : Value} {ls : List (List UInt8)} (h : OwnLL w base G v ls) : LL w v ls := by
  obtain ⟨a, cap, h1, h2, h3, h4, h5⟩ := h.get
  refine ⟨a, cap, h1, h2, h3, h4, fun j l hj => ?_⟩
  obtain ⟨g, x, k1, _, k2, k3, _⟩ := h5 j l hj
  exact ⟨g, 0, x, k1, by rw [Nat.zero_add]; exact k2, k3⟩
theorem infoLL : (Tryd.prog.info? 23).map (fun i => (i.zero, i.size, i.bytes)) = some (some (.slice none 0 0), 1, 24) := by kernel_rfl
/-- 'append(v, x)' -/
theorem run_appendLL (w : World) (ty : TypeId) (base : Nat) (G : Nat → Prop) (v : Value) (ls : List (List UInt8)) (hown : OwnLL w base G v ls) (g c : Nat) (u : Value) (l : List UInt8) (hc : w.cell? ⟨g, 0, none⟩ = some u) (h1 : u.oneCell' = true) (hb : Bytes w u l)
    (hu : ∀ k, vblk u = some k → l ≠ [] → G k ∧ v.ownBlock ≠ some k) (hlen : ls.length ≤ 1048576) (hbase : base ≤ w.heap.size) :
    ∃ v' w', (Builtin.append_ #[74, 74] ty #[v, .slice (some ⟨g, 0, none⟩) 1 c]).run Tryd.prog w = .ok v' w' ∧ OwnLL w' base G v' (ls ++ [l]) ∧ w.grownBy w' v.ownBlock := by
  obtain ⟨vs, hr, h3⟩ := hown
  obtain ⟨i, hi, hz0, hz1, hz2⟩ := info_parts infoLL
  obtain ⟨v', w', q1, q2, q3, -, q5⟩ := run_append_own_at (P := Tryd.prog) w base 74 ty 23 i (.slice none 0 0) 1 24 Tryd.underlying74 hi hz0 hz1 hz2 rfl (by decide) v ls.length vs hr ⟨g, 0, none⟩ 1 c [u] rfl
    (fun j y hy => by
      match j, hy with
      | 0, hy => simp at hy; subst hy; simpa [Addr.add] using hc)
    (fun y hy => by simp at hy; subst hy; exact h1) (by unfold maxLen; omega) (by omega) hbase
  refine ⟨v', w', q1, ⟨vs ++ [u], by rw [List.length_append]; exact q2, fun j l' hj => ?_⟩, q3⟩
  have hvl : vs.length = ls.length := by have := hr.1; omega
  have hnew : ∀ y m, Bytes w y m → (∀ k, vblk y = some k → m ≠ [] → G k ∧ v.ownBlock ≠ some k) → Bytes w' y m ∧ ∀ k, vblk y = some k → m ≠ [] → G k ∧ v'.ownBlock ≠ some k := fun y m hy hk => by
    refine ⟨hy.grown q3 fun k hk1 hk2 => (hk k hk1 hk2).2, fun k hk1 hk2 => ⟨(hk k hk1 hk2).1, ?_⟩⟩
    rcases q5 with e | e
    · rw [e]; exact (hk k hk1 hk2).2
    · rw [e]
      have := hy.blk_lt hk2 k hk1
      simp; omega
  by_cases hjl : j < ls.length
  · rw [List.getElem?_append_left hjl] at hj
    obtain ⟨x, k1, k2, k3, k4⟩ := h3 j l' hj
    obtain ⟨m1, m2⟩ := hnew x l' k3 k4
    exact ⟨x, by rw [List.getElem?_append_left (by omega)]; exact k1, k2, m1, m2⟩
  · rw [List.getElem?_append_right (by omega)] at hj
    obtain ⟨m1, m2⟩ := hnew u l hb hu
    have hj0 : j - ls.length = 0 := by
      have := (List.getElem?_eq_some_iff.1 hj).1
      simp at this; omega
    rw [hj0] at hj
    simp at hj
    subst hj
    exact ⟨u, by rw [List.getElem?_append_right (by omega), hvl, hj0]; rfl, h1, m1, m2⟩
theorem wpList_appendLL {ops : Array Oper} {rest : List Oper} {o : Oper} {a : Act} {w : World} {Q : Exit → Act → World → Prop} (hgd : o.guard = none) (s x : Operand)
    (ho : o.op = .call { callee := .builtin .append, args := #[s, x], argTypes := #[74, 74] })
    (base : Nat) (G : Nat → Prop) (v : Value) (ls : List (List UInt8)) (hs : a.eval s = v) (hown : OwnLL w base G v ls) (g c : Nat) (hx : a.eval x = .slice (some ⟨g, 0, none⟩) 1 c) (u : Value) (l : List UInt8) (hc : w.cell? ⟨g, 0, none⟩ = some u) (h1 : u.oneCell' = true) (hb : Bytes w u l)
    (hu : ∀ k, vblk u = some k → l ≠ [] → G k ∧ v.ownBlock ≠ some k) (hlen : ls.length ≤ 1048576) (hbase : base ≤ w.heap.size)
    (h : ∀ v' w', OwnLL w' base G v' (ls ++ [l]) → w.grownBy w' v.ownBlock → wpList Tryd.prog ops Q rest (a.put o.dst v') w') : wpList Tryd.prog ops Q (o :: rest) a w := by
  refine wpList_plain hgd fun K hK => ?_
  obtain ⟨v', w', hr, h2, h3⟩ := run_appendLL w o.type base G v ls hown g c u l hc h1 hb hu hlen hbase
  unfold Oper.wp execOp
  simp only [ho, resolve, invoke, builtin, Sem.run_bind, Sem.run_pure, Result.andThen_ok, List.map_toArray, List.map_cons, List.map_nil, hs, hx, hr]
  exact hK _ _ (h v' w' h2 h3)
end Go.Proofs.YtkdmljijgfejpaaDoor
