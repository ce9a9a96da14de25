/- Records that are laid one behind the other, the last of them appended to. -/
import Derived.Test.YtkdmljijgfejpaaDoorGKt
namespace Go.Proofs.YtkdmljijgfejpaaDoor
set_option linter.unusedVariables false
set_option linter.unusedSimpArgs false
open Go.RowKit Kv Fr

theorem vblk_own (v : Value) : vblk v = v.ownBlock := by
  cases v with
  | slice a n c => cases a <;> rfl
  | _ => rfl
theorem ownsRow_ext {w w' : World} {base : Nat} {E : TypeId} {k : Nat} {v : Value} {n : Nat} {xs : List Value} (h : w.ownsRow base E k v n xs) (e : Ext w w') : w'.ownsRow base E k v n xs := by
  obtain ⟨h1, h⟩ := h
  refine ⟨h1, ?_⟩
  rcases h with ⟨rfl, h0⟩ | ⟨g, cap, cur, rfl, hb, hh, r⟩
  · exact .inl ⟨rfl, h0⟩
  · exact .inr ⟨g, cap, cur, rfl, hb, e.heap hh, r⟩
theorem OwnB.oneCell {w : World} {base : Nat} {v : Value} {l : List UInt8} (h : OwnB w base v l) : v.oneCell' = true := by
  obtain ⟨a, cap, rfl, -⟩ := h.shape
  rfl
/-- block g holds pre's records and behind them x, a record of the call's own that holds z -/
structure SnapG (w : World) (base g cap : Nat) (cur : Array Value) (x : Value) (pre : List (List UInt8)) (z : List UInt8) : Prop where
  bs : base ≤ g
  hp : w.heap[g]? = some (.cells cur 23 (0, 0))
  le : pre.length + 1 ≤ cap
  mx : cap ≤ maxLen
  sz : cur.size = cap
  lx : cur[pre.length]? = some x
  ow : OwnB w base x z
  xg : x.ownBlock ≠ some g
  xlt : ∀ k, x.ownBlock = some k → k < w.heap.size
  el : ∀ (j : Nat) (l : List UInt8), pre[j]? = some l → ∃ y, cur[j]? = some y ∧ y.oneCell' = true ∧ Bytes w y l ∧ ∀ k, vblk y = some k → base ≤ k ∧ k < w.heap.size ∧ k ≠ g ∧ x.ownBlock ≠ some k
def SnapS (w : World) (base : Nat) (v : Value) (ls : List (List UInt8)) : Prop := (v = .slice none 0 0 ∧ ls = []) ∨
  ∃ pre z g cap cur x, ls = pre ++ [z] ∧ v = .slice (some ⟨g, 0, none⟩) (pre.length + 1) cap ∧ SnapG w base g cap cur x pre z
section
variable {w w' : World} {base g cap : Nat} {cur : Array Value} {x v : Value} {pre ls : List (List UInt8)} {z : List UInt8}
theorem SnapG.lt (h : SnapG w base g cap cur x pre z) : g < w.heap.size := (Array.getElem?_eq_some_iff.1 h.hp).1
theorem SnapG.ext (h : SnapG w base g cap cur x pre z) (e : Ext w w') : SnapG w' base g cap cur x pre z :=
  ⟨h.bs, e.heap h.hp, h.le, h.mx, h.sz, h.lx, h.ow.ext e, h.xg, fun k hk => Nat.lt_of_lt_of_le (h.xlt k hk) e.size, fun j l hj => let ⟨y, a, b, c, d⟩ := h.el j l hj; ⟨y, a, b, c.ext e, fun k hk => ⟨(d k hk).1, Nat.lt_of_lt_of_le (d k hk).2.1 e.size, (d k hk).2.2⟩⟩⟩
theorem SnapS.ext (h : SnapS w base v ls) (e : Ext w w') : SnapS w' base v ls := by
  rcases h with h | ⟨pre, z, g, cap, cur, x, h1, h2, h3⟩
  · exact .inl h
  · exact .inr ⟨pre, z, g, cap, cur, x, h1, h2, h3.ext e⟩
theorem SnapG.cell (h : SnapG w base g cap cur x pre z) : w.cell? ⟨g, pre.length, none⟩ = some x ∧ w.frozen? ⟨g, pre.length, none⟩ = false := by
  refine ⟨?_, by simp [World.frozen?, h.hp]⟩
  rw [cell_of_row _ _ _ _ _ _ h.hp]; exact h.lx
theorem SnapS.row (h : SnapS w base v ls) : ∃ vs, w.ownsRow base 23 1 v ls.length vs ∧ (∀ k, v.ownBlock = some k → k < w.heap.size) ∧ ∀ (j : Nat) (l : List UInt8), ls[j]? = some l → ∃ y, vs[j]? = some y ∧ y.oneCell' = true ∧ Bytes w y l ∧ ∀ k, vblk y = some k → base ≤ k ∧ k < w.heap.size ∧ v.ownBlock ≠ some k := by
  rcases h with ⟨rfl, rfl⟩ | ⟨pre, z, g, cap, cur, x, rfl, rfl, h⟩
  · exact ⟨[], World.ownsRow_nil w base _ 1, fun k hk => by simp [Value.ownBlock] at hk, fun j l hj => by simp at hj⟩
  · have hle := h.le
    have hsz := h.sz
    refine ⟨cur.toList.take (pre.length + 1), ⟨by rw [List.length_take, List.length_append]; simp; omega, .inr ⟨g, cap, cur, by simp, h.bs, h.hp, by simp; exact hle, h.mx, by rw [hsz, Nat.mul_one], by simp⟩⟩, fun k hk => ?_, fun j l hj => ?_⟩
    · simp only [Value.ownBlock, Option.some.injEq] at hk
      subst hk; exact h.lt
    · by_cases hjl : j < pre.length
      · rw [List.getElem?_append_left hjl] at hj
        obtain ⟨y, a, b, c, d⟩ := h.el j l hj
        exact ⟨y, by rw [List.getElem?_take_of_lt (by omega), Array.getElem?_toList]; exact a, b, c, fun k hk => ⟨(d k hk).1, (d k hk).2.1, fun e => (d k hk).2.2.1 (by simp only [Value.ownBlock, Option.some.injEq] at e; exact e.symm)⟩⟩
      · have hjq : j = pre.length := by
          have := (List.getElem?_eq_some_iff.1 hj).1
          simp at this; omega
        subst hjq
        rw [List.getElem?_append_right (Nat.le_refl _), Nat.sub_self] at hj
        simp only [List.getElem?_cons_zero, Option.some.injEq] at hj
        subst hj
        refine ⟨x, by rw [List.getElem?_take_of_lt (by omega), Array.getElem?_toList]; exact h.lx, h.ow.oneCell, h.ow.bytes, fun k hk => ?_⟩
        rw [vblk_own] at hk
        exact ⟨h.ow.lt k hk, h.xlt k hk, fun e => h.xg (by simp only [Value.ownBlock, Option.some.injEq] at e; rw [hk, e])⟩
theorem SnapS.ll (h : SnapS w base v ls) : LL w v ls := by
  obtain ⟨vs, hr, hlt, hel⟩ := h.row
  have : OwnLL w base (fun _ => True) v ls := ⟨vs, hr, fun j l hj => let ⟨y, a, b, c, d⟩ := hel j l hj; ⟨y, a, b, c, fun k hk _ => ⟨trivial, (d k hk).2.2⟩⟩⟩
  exact this.ll
end
/-- a record of its own is laid behind all others -/
theorem run_appendSnap {w0 w : World} {base : Nat} {v vb : Value} {ls : List (List UInt8)} {b : List UInt8} (ty : TypeId) (h0 : SnapS w0 base v ls) (e : Ext w0 w) (hb : OwnB w w0.heap.size vb b) (hbn : b ≠ []) (gb c : Nat) (hc : w.cell? ⟨gb, 0, none⟩ = some vb) (hlen : ls.length ≤ 1048000) (hbase : base ≤ w0.heap.size) :
    ∃ v' w', (Builtin.append_ #[74, 74] ty #[v, .slice (some ⟨gb, 0, none⟩) 1 c]).run Tryd.prog w = .ok v' w' ∧ SnapS w' base v' (ls ++ [b]) ∧ w.grownBy w' v.ownBlock := by
  obtain ⟨vs, hr0, hlt0, hel⟩ := h0.row
  have hr := ownsRow_ext hr0 e
  have hes := e.size
  obtain ⟨i, hi, hz0, hz1, hz2⟩ := info_parts infoLL
  have hbo : vb.ownBlock = vblk vb := (vblk_own vb).symm
  obtain ⟨kb, hkb⟩ : ∃ kb, vb.ownBlock = some kb := by
    obtain ⟨a, cap, rfl, -, -⟩ := id hb.shape
    obtain ⟨-, h⟩ := hb
    rcases h with ⟨-, h⟩ | ⟨g, cap, cur, hv, -⟩
    · exact absurd (List.eq_nil_of_length_eq_zero h) hbn
    · exact ⟨g, by rw [hv]; rfl⟩
  have hkl : kb < w.heap.size := hb.bytes.blk_lt hbn kb (by rw [← hbo]; exact hkb)
  have hk0 := hb.lt kb hkb
  obtain ⟨v', w', q1, q2, q3, -, q5⟩ := run_append_own_at (P := Tryd.prog) w base 74 ty 23 i (.slice none 0 0) 1 24 Tryd.underlying74 hi hz0 hz1 hz2 rfl (by decide) v ls.length vs hr ⟨gb, 0, none⟩ 1 c [vb] (by simp)
    (fun j y hy => by
      match j, hy with
      | 0, hy => simp at hy; subst hy; simpa [Addr.add] using hc)
    (fun u hu => by rw [List.mem_singleton.1 hu]; exact hb.oneCell) (by unfold maxLen; omega) (by omega) (Nat.le_trans hbase e.size)
  refine ⟨v', w', q1, ?_, q3⟩
  obtain ⟨hvl, hv'⟩ := q2
  have hvs : vs.length = ls.length := by have := hr.1; omega
  rcases hv' with ⟨-, h⟩ | ⟨g', cap', cur', rfl, hb', hh', hn', hm', hs', ht'⟩
  · omega
  · have hg' : g' = w.heap.size ∨ v.ownBlock = some g' := by
      rcases q5 with h | h
      · exact .inr h.symm
      · exact .inl (by simp only [Value.ownBlock, Option.some.injEq] at h; exact h)
    have hv0 : ∀ k, v.ownBlock = some k → k < w0.heap.size := hlt0
    have hget : ∀ j, j < ls.length + 1 → cur'[j]? = (vs ++ [vb])[j]? := fun j hj => by
      rw [← ht', List.getElem?_take_of_lt (by omega), Array.getElem?_toList]
    have hrow : ∀ k, v.ownBlock = some k → k ≠ kb := fun k hk => by have := hv0 k hk; omega
    have hsz := q3.size
    have hlt' := (Array.getElem?_eq_some_iff.1 hh').1
    refine .inr ⟨ls, b, g', cap', cur', vb, rfl, rfl, hb', hh', hn', hm', by rw [hs', Nat.mul_one], ?_, ?_, ?_, fun k hk => ?_, fun j l hj => ?_⟩
    · rw [hget _ (by omega), List.getElem?_append_right (by omega), hvs, Nat.sub_self]; rfl
    · have hbB : OwnB w' w0.heap.size vb b := by
        obtain ⟨h1, h⟩ := hb
        refine ⟨h1, ?_⟩
        rcases h with h | ⟨g, cap, cur, rfl, hbb, hh, r⟩
        · exact .inl h
        · have hgk : g = kb := by simpa [Value.ownBlock] using hkb
          exact .inr ⟨g, cap, cur, rfl, hbb, (q3.block g (Array.getElem?_eq_some_iff.1 hh).1 fun e1 => hrow g e1.symm hgk).trans hh, r⟩
      obtain ⟨h1, h⟩ := hbB
      refine ⟨h1, ?_⟩
      rcases h with h | ⟨g, cap, cur, rfl, hbb, r⟩
      · exact .inl h
      · exact .inr ⟨g, cap, cur, rfl, Nat.le_trans hbase hbb, r⟩
    · rw [hkb]
      intro e1
      simp only [Option.some.injEq] at e1
      rcases hg' with h | h
      · omega
      · exact hrow g' h e1.symm
    · rw [hkb] at hk
      simp only [Option.some.injEq] at hk
      omega
    · have hjl := (List.getElem?_eq_some_iff.1 hj).1
      obtain ⟨y, a, b1, c1, d1⟩ := hel j l hj
      refine ⟨y, by rw [hget j (by omega), List.getElem?_append_left (by omega)]; exact a, b1, (c1.ext e).grown q3 (fun k hk _ => (d1 k hk).2.2), fun k hk => ⟨(d1 k hk).1, by have := (d1 k hk).2.1; omega, ?_, ?_⟩⟩
      · have := (d1 k hk).2.1
        rcases hg' with h | h
        · omega
        · exact fun e1 => (d1 k hk).2.2 (by rw [h, e1])
      · rw [hkb]
        intro e1
        simp only [Option.some.injEq] at e1
        have := (d1 k hk).2.1
        omega
theorem wpList_appendSnap {ops : Array Oper} {rest : List Oper} {o : Oper} {a : Act} {w0 w : World} {Q : Exit → Act → World → Prop} (hgd : o.guard = none) (s x : Operand)
    (ho : o.op = .call { callee := .builtin .append, args := #[s, x], argTypes := #[74, 74] })
    (base : Nat) (v : Value) (ls : List (List UInt8)) (hs : a.eval s = v) (h0 : SnapS w0 base v ls) (e : Ext w0 w) (gb c : Nat) (hx : a.eval x = .slice (some ⟨gb, 0, none⟩) 1 c) (vb : Value) (b : List UInt8) (hc : w.cell? ⟨gb, 0, none⟩ = some vb) (hb : OwnB w w0.heap.size vb b) (hbn : b ≠ []) (hlen : ls.length ≤ 1048000) (hbase : base ≤ w0.heap.size)
    (h : ∀ v' w', SnapS w' base v' (ls ++ [b]) → w.grownBy w' v.ownBlock → wpList Tryd.prog ops Q rest (a.put o.dst v') w') : wpList Tryd.prog ops Q (o :: rest) a w := by
  refine wpList_plain hgd fun K hK => ?_
  obtain ⟨v', w', hr, h2, h3⟩ := run_appendSnap o.type h0 e hb hbn gb c hc hlen hbase
  unfold Oper.wp execOp
  simp only [ho, resolve, invoke, builtin, Sem.run_bind, Sem.run_pure, Result.andThen_ok, List.map_toArray, List.map_cons, List.map_nil, hs, hx]
  simp only [hr, Result.andThen_ok]
  exact hK _ _ (h v' w' h2 h3)
/-- bytes appended to the call's own: where they lie then -/
theorem wpList_appendBk {ops : Array Oper} {rest : List Oper} {o : Oper} {a : Act} {w : World} {Q : Exit → Act → World → Prop} (hgd : o.guard = none) (s x : Operand)
    (ho : o.op = .call { callee := .builtin .append, args := #[s, x], argTypes := #[23, 23] })
    (base : Nat) (v : Value) (l : List UInt8) (hs : a.eval s = v) (hown : OwnB w base v l) (u : Value) (m : List UInt8) (hx : a.eval x = u) (hb : Bytes w u m) (hm : m ≠ [])
    (hsz : l.length + m.length ≤ 1000000) (hbase : base ≤ w.heap.size)
    (h : ∀ v' w', OwnB w' base v' (l ++ m) → w.grownBy w' v.ownBlock → (v'.ownBlock = v.ownBlock ∨ v'.ownBlock = some w.heap.size) → wpList Tryd.prog ops Q rest (a.put o.dst v') w') : wpList Tryd.prog ops Q (o :: rest) a w := by
  refine wpList_plain hgd fun K hK => ?_
  obtain ⟨i, hi, hz0, hz1, hz2⟩ := info_parts info8
  obtain ⟨ax, cx, rfl, hle, hcm, hnone, hcells⟩ := hb
  cases ax with
  | none => exact absurd (List.eq_nil_of_length_eq_zero (by have := hnone rfl; omega)) hm
  | some ad =>
    obtain ⟨v', w', q1, q2, q3, -, q5⟩ := run_append_own_at (P := Tryd.prog) w base 23 o.type 5 i (.int .u8 0) 1 1 Tryd.underlying23 hi hz0 hz1 hz2 rfl (by decide) v l.length _ hown ad m.length cx (m.map u8v) (by simp)
      (fun j u hu => by
        obtain ⟨hj, rfl⟩ := List.getElem?_eq_some_iff.1 hu
        simp only [List.length_map] at hj
        obtain ⟨g, o', e, hc⟩ := hcells j hj
        cases e
        rw [Addr.add_lit, hc]; simp [u8v])
      (fun u hu => by
        obtain ⟨c, _, rfl⟩ := List.mem_map.1 hu
        rfl) (by unfold maxLen; omega) (by omega) hbase
    unfold Oper.wp execOp
    simp only [ho, resolve, invoke, builtin, Sem.run_bind, Sem.run_pure, Result.andThen_ok, List.map_toArray, List.map_cons, List.map_nil, hs, hx]
    simp only [q1, Result.andThen_ok]
    exact hK _ _ (h v' w' (by unfold OwnB; rw [List.length_append, List.map_append]; exact q2) q3 q5)
/-- the last record, appended to, is laid back -/
theorem SnapG.last {w w4 : World} {base g cap : Nat} {cur : Array Value} {x v4 : Value} {pre : List (List UInt8)} {z y : List UInt8} (h : SnapG w base g cap cur x pre z) (o4 : OwnB w4 base v4 y) (hg : w.grownBy w4 x.ownBlock) (hv : v4.ownBlock = x.ownBlock ∨ v4.ownBlock = some w.heap.size) (hlt : ∀ k, v4.ownBlock = some k → k < w4.heap.size) :
    w4.cell? ⟨g, pre.length, none⟩ = some x ∧ w4.frozen? ⟨g, pre.length, none⟩ = false ∧ SnapG (w4.setCell ⟨g, pre.length, none⟩ v4) base g cap (cur.setIfInBounds pre.length v4) v4 pre y := by
  have hgl := h.lt
  have hsz := hg.size
  have h4 : w4.heap[g]? = some (.cells cur 23 (0, 0)) := (hg.block g hgl fun e => h.xg e.symm).trans h.hp
  have hv4g : v4.ownBlock ≠ some g := fun e => by
    rcases hv with h1 | h1
    · exact h.xg (h1.symm.trans e)
    · rw [h1] at e; simp only [Option.some.injEq] at e; omega
  have c : Chg (fun k => k = g) w4 (w4.setCell ⟨g, pre.length, none⟩ v4) := (Chg.refl (fun k => k = g) w4).setCell (fun _ => rfl) _
  have hcs := c.size
  refine ⟨by rw [cell_of_row _ _ _ _ _ _ h4]; exact h.lx, by simp [World.frozen?, h4], ⟨h.bs, setCell_row _ _ _ _ _ _ _ h4, h.le, h.mx, by rw [Array.size_setIfInBounds]; exact h.sz, ?_, ?_, hv4g, fun k hk => Nat.lt_of_lt_of_le (hlt k hk) hcs, fun j l hj => ?_⟩⟩
  · rw [Array.getElem?_setIfInBounds_self_of_lt (by have := h.le; have := h.sz; omega)]
  · obtain ⟨o1, o2⟩ := o4
    refine ⟨o1, ?_⟩
    rcases o2 with o2 | ⟨g', cap', cur', rfl, hb', hh', r⟩
    · exact .inl o2
    · exact .inr ⟨g', cap', cur', rfl, hb', (c.block g' (Array.getElem?_eq_some_iff.1 hh').1 fun e => hv4g (by rw [e]; rfl)).trans hh', r⟩
  · obtain ⟨yv, a, b, cc, d⟩ := h.el j l hj
    have hjl := (List.getElem?_eq_some_iff.1 hj).1
    refine ⟨yv, by rw [Array.getElem?_setIfInBounds_ne (by omega)]; exact a, b, (cc.grown hg fun k hk _ => (d k hk).2.2.2).chgV c fun k hk _ => (d k hk).2.2.1, fun k hk => ⟨(d k hk).1, by have := (d k hk).2.1; omega, (d k hk).2.2.1, ?_⟩⟩
    rcases hv with h1 | h1
    · rw [h1]; exact (d k hk).2.2.2
    · rw [h1]
      intro e1
      simp only [Option.some.injEq] at e1
      have := (d k hk).2.1
      omega
end Go.Proofs.YtkdmljijgfejpaaDoor


namespace Go.Proofs.YtkdmljijgfejpaaDoor
set_option linter.unusedVariables false
set_option linter.unusedSimpArgs false
open Go.RowKit Kv Dk Wl Fr

def slen0 : Value → Nat
  | .slice _ n _ => n
  | _ => 0
theorem oneP_ne (p : Kv.Pr) : oneP p ≠ [] := by
  have := one_length (chOf p)
  intro e
  unfold oneP at e
  rw [e] at this
  simp only [List.length_nil] at this
  omega
theorem snap_next (pre : List (List UInt8)) (z : List UInt8) (p : Kv.Pr) : snapStep (pre ++ [z]) p = if z.length + (oneP p).length ≤ 4000 then pre ++ [z ++ oneP p] else pre ++ [z] ++ [oneP p] := by
  unfold snapStep
  rw [List.getLast?_concat, List.dropLast_concat]
theorem snap_first (p : Kv.Pr) : snapStep [] p = [oneP p] := rfl
attribute [local irreducible] oneP
set_option maxRecDepth 20000 in
set_option maxHeartbeats 4000000 in
theorem snapOk_any : SnapOk := by
  intro m L w hm ho hl
  have hP := kvPairs_any m L w hm (okF_of ho) (by omega)
  have hoh := Lib.hid ho
  have hsl := Lib.hid (fun (k : Nat) (hk : k ≤ L.length) => show (snap (L.take k)).length ≤ 40000 from by have := snap_len (L.take k); rw [List.length_take] at this; omega)
  have hsf := Lib.hid (fun (k : Nat) => snap_fits (l := L.take k) (fun p hp => ho p (List.mem_of_mem_take hp)))
  clear hm ho
  go_enter Tryd.func42, Tryd.ntmps42
  go_wp2_with (go_at_call 43; refine hP.mono ?_; rintro e w1 ⟨u, rfl, o1, e1⟩; obtain ⟨au, cu, rfl, -⟩ := o1.shape)
  have hrs := Lib.hid (show ∀ W, Ext w1 W → Prs W (.slice au L.length cu) L from fun W e => (o1.rs (by decide) prc_len).ext e)
  have e1h := Lib.hid e1
  clear hP o1 e1
  go_loopw [3, 11] (fun out i wr => ∃ k : Nat, k ≤ L.length ∧ i = .int .i64 (k : Int) ∧ RowKit.Hid (SnapS wr w1.heap.size out (snap (L.take k))) ∧ RowKit.Hid (Ext w1 wr)) (fun _ i _ => L.length - (intOf i).toNat)
  case atStart => exact ⟨0, Nat.zero_le _, rfl, Lib.hid (.inl ⟨rfl, rfl⟩), Lib.hid (Ext.refl _)⟩
  case round =>
    obtain ⟨k, hk, rfl, hS, ek⟩ := hrel
    by_cases hlt : k < L.length
    · have hki : (k : Int) < (L.length : Int) := by omega
      have hw1 : IntKind.i64.wrap ((k : Int) + 1) = (k : Int) + 1 := by rw [IntKind.wrap_i64]; omega
      obtain ⟨a5, c5, hv5, -, hg5⟩ := (hrs.out wr ek.out).shape
      cases hv5
      obtain ⟨g, o, rfl, hr, hf⟩ := hg5 k L[k] (List.getElem?_eq_getElem hlt)
      have hrc : rightC (chOf L[k]) = true := hoh.out _ (List.getElem_mem hlt)
      have hone := Lib.hid (fun W => kvOne_any (chOf L[k]) W hrc)
      have hsm := Lib.hid (one_small hrc)
      have hnx := Lib.hid (snap_take hlt)
      have hsl1 := Lib.hid (hsl.out k hk)
      have hsf1 := Lib.hid (hsf.out k)
      have hne := Lib.hid (oneP_ne L[k])
      have hrw : wr.rangeAt g (o + k * 2) [.string (str L[k].n), .string (str L[k].v)] := hr
      have hoP := Lib.hid (show oneC (chOf L[k]) = oneP L[k] from by unfold oneP; rfl)
      rw [hoP.out] at hone
      have hn0 := Lib.hid (snap_first L[k])
      have hnP := Lib.hid (fun pre z => snap_next pre z L[k])
      generalize snap (L.take k) = ls at *
      generalize oneP L[k] = b at *
      generalize L[k] = x at *
      clear hr hf hrc hsl hsf hoP
      obtain ⟨W0, hW0⟩ : ∃ W, W = wr.alloc (.cells #[.string (str x.n), .string (str x.v)] 86) := ⟨_, rfl⟩
      have eW := Lib.hid (show Ext wr W0 from by rw [hW0]; exact (Ext.refl wr).alloc _)
      have b0 : (wr.alloc (.cells #[.string (str x.n), .string (str x.v)] 86)).cell? ⟨wr.heap.size, 0, none⟩ = some (.string (str x.n)) := cell_at (heap_alloc_new wr _) 0 rfl
      have b1 : (wr.alloc (.cells #[.string (str x.n), .string (str x.v)] 86)).cell? ⟨wr.heap.size, 1, none⟩ = some (.string (str x.v)) := cell_at (heap_alloc_new wr _) 1 rfl
      have hO : Calls Tryd.prog 33 #[.agg #[.string (str x.n), .string (str x.v), .bool false]] W0 (Ret fun v w' => OwnB w' W0.heap.size v b ∧ Ext W0 w') := hone.out W0
      rw [hW0] at hO
      have hWh := Lib.hid hW0
      clear hone hW0
      rcases hS.out with ⟨rfl, rfl⟩ | ⟨pre, z, gg, cap, cur, xv, rfl, rfl, hG⟩
      · go_wp2_with (first
          | (refine wpList_load_mid rfl 86 _ rfl g (o + k * 2) rfl [.string (str x.n), .string (str x.v)] _ hrw Tryd.underlying86 rfl info_pr ?_)
          | (refine wpList_store_new wr rfl 86 _ _ rfl #[.string (str x.n), .string (str x.v)] _ rfl rfl rfl 2 info_pr rfl rfl (by simp [Value.oneCell']) ?_)
          | (go_at_call 33; refine hO.mono ?_; rintro e w2 ⟨vb, rfl, ob, e2⟩; rw [← hWh.out] at ob e2; obtain ⟨ab, cb, rfl, -⟩ := id ob.shape)
          | (at_builtin; refine wpList_appendSnap (w0 := W0) rfl (.tmp 48) (.tmp 50) rfl w1.heap.size (.slice none 0 0) [] rfl (hS.out.ext eW.out) (e2.alloc _) w2.heap.size 1 rfl (.slice ab b.length cb) b (cell_at (heap_alloc_new w2 _) 0 rfl) (ob.alloc _) hne.out (by decide) (Nat.le_trans ek.out.size eW.out.size) ?_; intro v4 w4 s4 g4))
        refine ⟨⟨k + 1, by omega, by go_num, Lib.hid (by rw [hnx.out, hn0.out]; exact s4), Lib.hid ((((ek.out.trans eW.out).trans e2).alloc _).grown g4 fun j hj => by simp [Value.ownBlock] at hj)⟩, by simp [intOf]; omega⟩
      · have hpl := Lib.hid (show pre.length ≤ 40000 from by have := hsl1.out; rw [List.length_append] at this; simp at this; omega)
        have hzl := Lib.hid (hsf1.out z (by simp)).2
        have hnx2 := Lib.hid (hnx.out.trans (hnP.out pre z))
        obtain ⟨ax, cx, rfl, -⟩ := id hG.ow.shape
        have hGh := Lib.hid (fun W (e : Ext wr W) => hG.ext e)
        have n1 : ((0 : Int) < (pre.length : Int) + 1) := by omega
        have n2 : IntKind.i64.wrap (pre.length : Int) = (pre.length : Int) := by rw [IntKind.wrap_i64]; have := hpl.out; omega
        have n3 : IntKind.i64.wrap ((pre.length : Int) + 1 - 1) = (pre.length : Int) := by rw [Int.add_sub_cancel]; exact n2
        have n4 : (pre.length : Int) < (pre.length : Int) + 1 := by omega
        have n5 : IntKind.i64.wrap ((z.length : Int) + (b.length : Int)) = (z.length : Int) + (b.length : Int) := by rw [IntKind.wrap_i64]; have := hzl.out; have := hsm.out; omega
        clear hsl1 hsf1 hG
        go_upto_region 7 with (first
          | (refine wpList_load_mid rfl 86 _ rfl g (o + k * 2) rfl [.string (str x.n), .string (str x.v)] _ hrw Tryd.underlying86 rfl info_pr ?_)
          | (refine wpList_store_new wr rfl 86 _ _ rfl #[.string (str x.n), .string (str x.v)] _ rfl rfl rfl 2 info_pr rfl rfl (by simp [Value.oneCell']) ?_)
          | (go_at_call 33; refine hO.mono ?_; rintro e w2 ⟨vb, rfl, ob, e2⟩; rw [← hWh.out] at ob e2; obtain ⟨ab, cb, rfl, -⟩ := id ob.shape))
        have c2 := (hGh.out _ (eW.out.trans e2)).cell.1
        by_cases hle : z.length + b.length ≤ 4000
        · have n6 : ((z.length : Int) + (b.length : Int)) ≤ 4000 := by omega
          have hnx3 := Lib.hid (hnx2.out.trans (if_pos hle))
          have hG2 := hGh.out _ (eW.out.trans e2)
          have hG2h := Lib.hid hG2
          clear hle hG2
          go_upto_region 8 with fail
          go_upto_region 10 with (first
            | (at_builtin; refine wpList_appendBk rfl (.tmp 44) (.tmp 45) rfl w1.heap.size (.slice ax z.length cx) z rfl hG2h.out.ow (.slice ab b.length cb) b rfl ob.bytes hne.out (by have := hzl.out; have := hsm.out; omega) ((ek.out.trans eW.out).trans e2).size ?_; intro v4 w4 o4 g4 q4; obtain ⟨f1, f2, s4⟩ := hG2h.out.last o4 g4 q4 (fun j hj => (World.ownsRow.lt o4 j hj).2); obtain ⟨a4, c4, rfl, -⟩ := id o4.shape; rw [List.length_append] at s4; have s4h := Lib.hid s4; clear s4))
          have e4 := Lib.hid (((ek.out.trans eW.out).trans e2).grown g4 fun j hj => hG2h.out.ow.lt j hj)
          have hgs := Lib.hid hG2h.out.bs
          clear g4 q4
          go_wp2
          refine ⟨⟨k + 1, by omega, by go_num, Lib.hid (by rw [hnx3.out]; exact .inr ⟨_, _, _, _, _, _, rfl, rfl, s4h.out⟩), Lib.hid (e4.out.setCell (show w1.heap.size ≤ gg from hgs.out) _)⟩, by simp [intOf]; omega⟩
        · have n6 : ¬ ((z.length : Int) + (b.length : Int)) ≤ 4000 := by omega
          have hnx3 := Lib.hid (hnx2.out.trans (if_neg hle))
          have hlen := Lib.hid (show (pre ++ [z]).length ≤ 1048000 from by rw [List.length_append]; have := hpl.out; simp; omega)
          clear hle
          go_upto_region 9 with fail
          go_upto_region 10 with (at_builtin; refine wpList_appendSnap (w0 := W0) rfl (.tmp 48) (.tmp 50) rfl w1.heap.size (.slice (some ⟨gg, 0, none⟩) (pre.length + 1) cap) (pre ++ [z]) rfl (hS.out.ext eW.out) (e2.alloc _) w2.heap.size 1 rfl (.slice ab b.length cb) b (cell_at (heap_alloc_new w2 _) 0 rfl) (ob.alloc _) hne.out hlen.out (Nat.le_trans ek.out.size eW.out.size) ?_; intro v4 w4 s4 g4)
          go_wp2
          refine ⟨⟨k + 1, by omega, by go_num, Lib.hid (by rw [hnx3.out]; exact s4), Lib.hid ((((ek.out.trans eW.out).trans e2).alloc _).grown g4 fun j hj => by simp only [Value.ownBlock, Option.some.injEq] at hj; rw [← hj]; exact (hGh.out _ (Ext.refl wr)).bs)⟩, by simp [intOf]; omega⟩
    · obtain rfl : k = L.length := by omega
      rw [List.take_length] at hS
      go_wp2
      go_ret
      exact Ret.mk ⟨hS.out.ll, e1h.out.trans ek.out⟩
end Go.Proofs.YtkdmljijgfejpaaDoor


namespace Go.Proofs.YtkdmljijgfejpaaDoor
set_option linter.unusedVariables false
set_option linter.unusedSimpArgs false
open Go.RowKit Kv Dk Wl Fr

theorem StK.chg {w w' : World} {G F F' : Nat → Prop} {s q p : Nat} {m : Option Nat} {g : Lg} {L : List Kv.Pr} (h : StK w G F s q p m g L) (c : Chg F' w w') (hF : ∀ k, k < w.heap.size → F k → ¬ F' k) : StK w' G F s q p m g L :=
  ⟨h.log.chg c fun k hk hg => hF k hk (h.sub k hg).1, h.sub, fun k hk => Nat.lt_of_lt_of_le (h.bnd k hk) c.size, h.hs, (c.block _ h.lt (hF _ h.lt h.hs)).trans h.blk, h.map.chg c fun b hb => hF b (h.map.lt b hb) (h.hm b hb).1, h.hm⟩
theorem StM.chg {w w' : World} {F F' : Nat → Prop} {s p : Nat} {g : Lg} {L : List Kv.Pr} (h : StM w F s p g L) (c : Chg F' w w') (hF : ∀ k, k < w.heap.size → F k → ¬ F' k) : StM w' F s p g L :=
  let ⟨G, q, m, k⟩ := h; ⟨G, q, m, k.chg c hF⟩
set_option maxRecDepth 20000 in
theorem kvAll_any {w : World} {F : Nat → Prop} {s p : Nat} {g : Lg} {L : List Kv.Pr} (h : StM w F s p g L) (ho : Oks L) (hl : L.length ≤ 100000) :
    Calls Tryd.prog 19 #[.pointer (some ⟨s, 0, none⟩), .string (str [])] w (Ret fun u w' => OwnP w' (fun j => w.heap.size ≤ j) u L ∧ Ext w w') := by
  obtain ⟨G, q, m, h⟩ := h
  obtain ⟨c0, c1⟩ := h.cells
  have hP := kvPairs_any m L w h.map (okF_of ho) hl
  clear h ho
  go_enter Tryd.func19, Tryd.ntmps19
  go_wp2_with (go_at_call 43; refine hP.mono ?_; rintro e w1 ⟨u, rfl, o1, e1⟩)
  go_ret
  exact Ret.mk ⟨o1, e1⟩
/-! ### plain: Commits that find room -/
theorem enc_small {l : List Ch} (h1 : l.all okF = true) (h2 : l.all rightC = true) : (encB l).length ≤ 127 * l.length := by
  induction l with
  | nil => simp [encB]
  | cons c l ih =>
    rw [List.all_cons, Bool.and_eq_true] at h1 h2
    obtain ⟨q1, q2, q3, -⟩ := right_parts h2.1
    have q4 : c.v.length ≤ 60 := by
      have := h1.1
      unfold okF at this
      simp at this
      omega
    have := ih h1.2 h2.2
    unfold encB at this ⊢
    rw [List.flatMap_cons, List.length_append, one_length, List.length_cons]
    omega
theorem enc_two {l : List Ch} (h1 : l.all okF = true) (hk : l.length ≤ 12) : (l.all rightC = true ∧ encE l = 0) ∨ (l.all rightC = false ∧ encE l = 1) := by
  cases h : l.all rightC with
  | true => exact .inl ⟨rfl, encE_zero.2 ⟨h, by have := enc_small h1 h; omega⟩⟩
  | false =>
    rw [List.all_eq_false] at h
    obtain ⟨x, hx, h⟩ := h
    exact .inr ⟨rfl, encE_bad hx (by simpa using h)⟩
theorem com_400 {c : Nat} {g : Lg} {rs : List (List UInt8)} (l : Lw c g rs) (L : List Kv.Pr) {cs : List Ch} (hn : g.d.n = 400) (hu : g.h.used ≤ 2000) (hg : g.h.gen ≤ 10) (hf : cs.all okF = true) (hk : cs.length ≤ 12) :
    ∃ g' rs', comL cs g L = (encE cs, g', if encE cs = 0 then after L cs else L) ∧ Lw c g' rs' ∧ g'.d.n = 400 ∧ g'.h.used ≤ g.h.used + 1600 ∧ g'.h.gen ≤ g.h.gen + 1 := by
  by_cases hE : encE cs = 0
  · by_cases hc : cs = []
    · subst hc
      refine ⟨g, rs, ?_, l, hn, by omega, by omega⟩
      unfold comL
      rw [if_neg (fun h => h.2 rfl), hE, if_pos rfl]; rfl
    · have hlen := enc_small hf (encE_zero.1 hE).1
      have hpos : 3 ≤ (encB cs).length := by
        cases cs with
        | nil => exact absurd rfl hc
        | cons x r => unfold encB; rw [List.flatMap_cons, List.length_append, one_length]; omega
      obtain ⟨g', a1, -, a3, a4, a5, a6⟩ := com_fits l L hE hc (by rw [hn, show areaN 400 = 199 from rfl]; omega) (by unfold errOf; rw [if_neg (by omega), if_neg (by omega)])
      exact ⟨g', _, by rw [a1, hE, if_pos rfl], a3, a4.trans hn, by rw [a5]; omega, by omega⟩
  · refine ⟨g, rs, ?_, l, hn, by omega, by omega⟩
    unfold comL
    rw [if_neg (fun h => hE h.1), if_neg hE]
end Go.Proofs.YtkdmljijgfejpaaDoor


