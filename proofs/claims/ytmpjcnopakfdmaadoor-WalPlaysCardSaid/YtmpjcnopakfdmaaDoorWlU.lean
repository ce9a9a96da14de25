/- What is done to a log: one thing that is given, things of bounded bulk; one thing ahead of others. -/
import Derived.Test.YtmpjcnopakfdmaaDoorGWh
import Derived.Test.YtmpjcnopakfdmaaDoorFrUpto
import Derived.Test.YtmpjcnopakfdmaaDoorOwn
namespace Go.Proofs.YtmpjcnopakfdmaaDoor
set_option linter.unusedVariables false
set_option linter.unusedSimpArgs false
open Go.ChangeShapes Go.WideShapes Go.ChangeAt Go.RowKit
set_option maxRecDepth 20000
section
variable {H : Type} {enc : TypeId × Value → H} {W : World} {base : Nat} {v : Value} {d : DataW H} {p : List MemPlace}
theorem open_wop (hval : Value.okWide Tryd.prog W .any base 61 v) (h : DataW.Trod enc Tryd.prog W 0 (fun _ => true) true 61 v d p) :
    ∃ (x : Wop) (vb vl vp : Value), v = .agg #[.int .i64 x.what, .int .i64 x.n, vb, vl, vp] ∧ Bytes W vb x.bs ∧ LL W vl x.ls ∧ Sl bv W vp x.ps ∧ (-9223372036854775808 ≤ x.n ∧ x.n ≤ 9223372036854775807) := by
  simp only [Value.okWide, Tryd.underlying61] at hval
  obtain ⟨cs, rfl, -⟩ := hval
  obtain ⟨fuel, hf⟩ := h
  obtain ⟨x, vb, vl, vp, hcs, h1, h2, h3, h4⟩ := wop_of hf
  refine ⟨x, vb, vl, vp, ?_, h1, h2, h3, h4⟩
  have hcs' : cs.toList = [.int .i64 x.what, .int .i64 x.n, vb, vl, vp] := hcs
  have : cs = #[.int .i64 x.what, .int .i64 x.n, vb, vl, vp] := by
    obtain ⟨l⟩ := cs
    exact congrArg Array.mk hcs'
  rw [this]
theorem open_wopsU (hval : Value.okWide Tryd.prog W .any base 59 v) (h : DataW.Trod enc Tryd.prog W 0 (fun _ => true) true 59 v d p) (hb : Rows.uptoBulk d ≤ 1048576) : ∃ l, Wops W v l ∧ l.length ≤ 1048576 := by
  obtain ⟨ls, hl⟩ := open_wops hval h
  obtain ⟨a0, len0, cap0, rfl⟩ := okWide_slice Tryd.underlying59 hval
  obtain ⟨fuel, hf⟩ := h
  refine ⟨ls, hl, ?_⟩
  obtain ⟨a, cap, e, -⟩ := hl
  cases e
  rcases Go.Deep.open_slice Tryd.underlying59 hf with ⟨hcs, -⟩ | ⟨a, len, cap, m, n, D, Pl, hcs, _, hl, hm, hmm, hx, hi⟩
  · simp [Value.cells] at hcs
    rw [hcs.2.1]; exact Nat.zero_le _
  · simp [Value.cells] at hcs
    obtain ⟨rfl, h2, rfl⟩ := hcs
    have hd : d = .slice ((List.range len).map D) ((List.range (m - len)).map fun j => D (len + j)) := congrArg Prod.fst hx
    rw [hd] at hb
    have := bulk_slice ((List.range len).map D) ((List.range (m - len)).map fun j => D (len + j))
    rw [List.length_map, List.length_range] at this
    omega
end
theorem info_wopF : (Tryd.prog.info? 61).map (fun i => (i.zero, i.size, i.bytes)) = some (some (.agg #[.int .i64 0, .int .i64 0, .slice none 0 0, .slice none 0 0, .slice none 0 0]), 5, 88) := by kernel_rfl
theorem slice_one {α : Type} {enc : α → Value} {w : World} {v : Value} {l : List α} (h : Sl enc w v l) : v.oneCell' = true := by
  obtain ⟨a, cap, rfl, _⟩ := h; rfl
theorem bytes_one' {w : World} {v : Value} {l : List UInt8} (h : Bytes w v l) : v.oneCell' = true := by
  obtain ⟨a, cap, rfl, _⟩ := h; rfl
theorem ll_one' {w : World} {v : Value} {l : List (List UInt8)} (h : LL w v l) : v.oneCell' = true := by
  obtain ⟨a, cap, rfl, _⟩ := h; rfl
/-- 'append([]Op{o}, l...)' -/
theorem run_appendOps (w0 : World) (ty : TypeId) (x : Wop) (vb vl vp : Value) (h1 : Bytes w0 vb x.bs) (h2 : LL w0 vl x.ls) (h3 : Sl bv w0 vp x.ps) (h4 : -9223372036854775808 ≤ x.n ∧ x.n ≤ 9223372036854775807) (v : Value) (l : List Wop) (h : Wops w0 v l) (hlen : l.length ≤ 1048576) :
    ∃ v' w', (Builtin.append_ #[59, 59] ty #[.slice (some ⟨w0.heap.size, 0, none⟩) 1 1, v]).run Tryd.prog (w0.alloc (.cells #[.int .i64 x.what, .int .i64 x.n, vb, vl, vp] 61)) = .ok v' w' ∧ Wops w' v' (x :: l) ∧ Ext w0 w' := by
  obtain ⟨W, hW⟩ : ∃ W, W = w0.alloc (.cells #[.int .i64 x.what, .int .i64 x.n, vb, vl, vp] 61) := ⟨_, rfl⟩
  have e0 : Ext w0 W := by rw [hW]; exact (Ext.refl w0).alloc _
  have hB : W.heap[w0.heap.size]? = some (.cells #[.int .i64 x.what, .int .i64 x.n, vb, vl, vp] 61 (0, 0)) := by rw [hW]; exact heap_alloc_new w0 _
  rw [← hW]
  have hown : OwnF 61 5 W (fun k => k = w0.heap.size) (.slice (some ⟨w0.heap.size, 0, none⟩) 1 1) 1 [.int .i64 x.what, .int .i64 x.n, vb, vl, vp] :=
    ⟨⟨rfl, .inr ⟨w0.heap.size, 1, _, rfl, Nat.zero_le _, hB, Nat.le_refl _, by simp [maxLen], rfl, rfl⟩⟩, fun k hk => (Option.some.inj hk).symm⟩
  have hne : ∀ w', Chg (fun k => k = w0.heap.size) W w' → Ext w0 w' := fun w' c => e0.chg c fun i hi => by rw [hi]; exact Nat.le_refl _
  obtain ⟨a, cap, rfl, hl, hm, hget⟩ := h
  by_cases hl0 : l.length = 0
  · obtain rfl : l = [] := List.eq_nil_of_length_eq_zero hl0
    have hone : ∀ w', w'.heap[w0.heap.size]? = some (.cells #[.int .i64 x.what, .int .i64 x.n, vb, vl, vp] 61 (0, 0)) → Ext w0 w' → Wops w' (.slice (some ⟨w0.heap.size, 0, none⟩) 1 1) [x] := fun w' hB' e' =>
      ⟨_, 1, rfl, Nat.le_refl _, by simp [maxLen], fun j y hj => by
        match j, hj with
        | 0, hj =>
          simp at hj
          subst hj
          refine ⟨w0.heap.size, 0, rfl, vb, vl, vp, fun i u hu => ?_, h1.ext e', h2.ext e', h3.ext e', h4.1, h4.2⟩
          rw [cell_of_row _ _ _ _ _ _ hB']
          have hi : i < 5 := (List.getElem?_eq_some_iff.1 hu).1
          rw [Nat.mul_zero, Nat.add_zero, Nat.zero_add, ← Array.getElem?_toList]
          exact hu⟩
    cases a with
    | none =>
      obtain ⟨i, hi, hz0, hz1, hz2⟩ := info_parts info_wopF
      have hr : (Builtin.append_ #[59, 59] ty #[.slice (some ⟨w0.heap.size, 0, none⟩) 1 1, .slice none ([] : List Wop).length cap]).run Tryd.prog W = .ok (.slice (some ⟨w0.heap.size, 0, none⟩) 1 1) W := by
        simp [Builtin.append_, run_underlying Tryd.underlying59, sizeOf, typeInfo, hi, Builtin.lenOf, Builtin.firstCells, storeCells]
      exact ⟨_, _, hr, hone W hB e0, e0⟩
    | some ad =>
      obtain ⟨v', w', hr, r1, r2⟩ := run_appendF (P := Tryd.prog) Tryd.underlying59 info_wopF rfl (by decide) ty W _ _ 1 _ hown ad 0 cap [] rfl (fun j u hu => by simp at hu) (fun u hu => by simp at hu) (by simp [maxLen]) (by omega)
      obtain ⟨av, cv, rfl, hml, hsh⟩ := r1.shape (by decide)
      obtain ⟨gv, cur, rfl, hgv, hcur, htake⟩ := hsh (by decide)
      refine ⟨_, _, hr, ⟨_, cv, rfl, ?_, ?_, fun j y hj => ?_⟩, hne _ r2⟩
      · have := r1.1.2
        rcases this with ⟨h, _⟩ | ⟨g, cap2, cur2, e, _, _, hn, _⟩
        · cases h
        · cases e; exact hn
      · have := r1.1.2
        rcases this with ⟨h, _⟩ | ⟨g, cap2, cur2, e, _, _, _, hm2, _⟩
        · cases h
        · cases e; exact hm2
      · match j, hj with
        | 0, hj =>
          simp at hj
          subst hj
          refine ⟨gv, 0, rfl, vb, vl, vp, fun i u hu => ?_, h1.ext (hne _ r2), h2.ext (hne _ r2), h3.ext (hne _ r2), h4.1, h4.2⟩
          rw [cell_of_row _ _ _ _ _ _ hcur]
          have hi : i < 5 := (List.getElem?_eq_some_iff.1 hu).1
          have h5 : (cur.toList.take ((1 + 0) * 5))[i]? = some u := by rw [htake]; exact hu
          rw [List.getElem?_take, if_pos (by omega)] at h5
          rw [Nat.mul_zero, Nat.add_zero, Nat.zero_add, ← Array.getElem?_toList]
          exact h5
  · obtain ⟨g, o, rfl, -⟩ := hget 0 l[0] (List.getElem?_eq_getElem (by omega))
    have hcell : ∀ j, j < l.length * 5 → ∃ u, w0.cell? ⟨g, o + j, none⟩ = some u ∧ u.oneCell' = true := fun j hj => by
      obtain ⟨g', o', e, yb, yl, yp, hr, q1, q2, q3, -⟩ := hget (j / 5) l[j / 5] (List.getElem?_eq_getElem (by omega))
      cases e
      have hu : ∃ u, ([.int .i64 (l[j / 5]).what, .int .i64 (l[j / 5]).n, yb, yl, yp] : List Value)[j % 5]? = some u ∧ u.oneCell' = true := by
        have h5 : j % 5 = 0 ∨ j % 5 = 1 ∨ j % 5 = 2 ∨ j % 5 = 3 ∨ j % 5 = 4 := by omega
        rcases h5 with h | h | h | h | h <;> rw [h]
        · exact ⟨_, rfl, rfl⟩
        · exact ⟨_, rfl, rfl⟩
        · exact ⟨_, rfl, bytes_one' q1⟩
        · exact ⟨_, rfl, ll_one' q2⟩
        · exact ⟨_, rfl, slice_one q3⟩
      obtain ⟨u, hu, hu1⟩ := hu
      have := hr (j % 5) u hu
      rw [show o + 5 * (j / 5) + j % 5 = o + j by omega] at this
      exact ⟨u, this, hu1⟩
    obtain ⟨news, hnl, hnw⟩ : ∃ news : List Value, news.length = l.length * 5 ∧ ∀ j u, news[j]? = some u → w0.cell? ⟨g, o + j, none⟩ = some u ∧ u.oneCell' = true := by
      refine ⟨(List.range (l.length * 5)).map fun j => (w0.cell? ⟨g, o + j, none⟩).getD undef, by simp, fun j u hu => ?_⟩
      rw [List.getElem?_map] at hu
      obtain ⟨k, hk, rfl⟩ := Option.map_eq_some_iff.1 hu
      have hjl : j < l.length * 5 := by
        have := (List.getElem?_eq_some_iff.1 hk).1
        simpa using this
      rw [List.getElem?_range hjl] at hk
      cases hk
      obtain ⟨u, q1, q2⟩ := hcell j hjl
      rw [q1]
      exact ⟨rfl, q2⟩
    obtain ⟨v', w', hr, r1, r2⟩ := run_appendF (P := Tryd.prog) Tryd.underlying59 info_wopF rfl (by decide) ty W _ _ 1 _ hown ⟨g, o, none⟩ l.length cap news hnl
      (fun j u hu => by rw [Addr.add_lit]; exact e0.cell (hnw j u hu).1) (fun u hu => by
        obtain ⟨j, hj, e⟩ := List.getElem_of_mem hu
        exact (hnw j u (by rw [List.getElem?_eq_getElem hj, e])).2) (by unfold maxLen; omega) (by omega)
    obtain ⟨av, cv, rfl, hml, hsh⟩ := r1.shape (by decide)
    obtain ⟨gv, cur, rfl, hgv, hcur, htake⟩ := hsh (by omega)
    have e' := hne _ r2
    refine ⟨_, _, hr, ⟨_, cv, by rw [List.length_cons, Nat.add_comm], ?_, ?_, fun j y hj => ?_⟩, e'⟩
    · have := r1.1.2
      rcases this with ⟨h, _⟩ | ⟨g, cap2, cur2, e, _, _, hn, _⟩
      · cases h
      · cases e; rw [List.length_cons]; omega
    · have := r1.1.2
      rcases this with ⟨h, _⟩ | ⟨g, cap2, cur2, e, _, _, _, hm2, _⟩
      · cases h
      · cases e; exact hm2
    · have hat : ∀ i u, ([.int .i64 x.what, .int .i64 x.n, vb, vl, vp] ++ news)[i]? = some u → w'.cell? ⟨gv, 0 + i, none⟩ = some u := fun i u hu => by
        rw [cell_of_row _ _ _ _ _ _ hcur, ← htake] at *
        rw [List.getElem?_take] at hu
        split at hu
        · rw [Nat.zero_add, ← Array.getElem?_toList]; exact hu
        · cases hu
      match j, hj with
      | 0, hj =>
        simp at hj
        subst hj
        refine ⟨gv, 0, rfl, vb, vl, vp, fun i u hu => ?_, h1.ext e', h2.ext e', h3.ext e', h4.1, h4.2⟩
        have hi : i < 5 := (List.getElem?_eq_some_iff.1 hu).1
        have := hat i u (by rw [List.getElem?_append_left (by simpa using hi)]; exact hu)
        rw [show 0 + 5 * 0 + i = 0 + i by omega]
        exact this
      | j + 1, hj =>
        rw [List.getElem?_cons_succ] at hj
        obtain ⟨g', o', e, yb, yl, yp, hr', q1, q2, q3, q4⟩ := hget j y hj
        cases e
        refine ⟨gv, 0, rfl, yb, yl, yp, fun i u hu => ?_, q1.ext e', q2.ext e', q3.ext e', q4⟩
        have hi : i < 5 := (List.getElem?_eq_some_iff.1 hu).1
        have hjl := (List.getElem?_eq_some_iff.1 hj).1
        have hn : news[5 * j + i]? = some u := by
          have hlt : 5 * j + i < news.length := by omega
          obtain ⟨q5, _⟩ := hnw (5 * j + i) _ (List.getElem?_eq_getElem hlt)
          have q6 := hr' i u hu
          rw [show o + 5 * j + i = o + (5 * j + i) by omega, q5] at q6
          rw [List.getElem?_eq_getElem hlt]; exact q6
        have := hat (5 + (5 * j + i)) u (by rw [List.getElem?_append_right (by simp)]; simpa using hn)
        rw [show 0 + 5 * (j + 1) + i = 0 + (5 + (5 * j + i)) by omega]
        exact this
theorem wpList_appendOps {ops : Array Oper} {rest : List Oper} {o : Oper} {a : Act} {Q : Exit → Act → World → Prop} (hgd : o.guard = none) (s y : Operand)
    (ho : o.op = .call { callee := .builtin .append, args := #[s, y], argTypes := #[59, 59] })
    (w0 : World) (x : Wop) (vb vl vp : Value) (h1 : Bytes w0 vb x.bs) (h2 : LL w0 vl x.ls) (h3 : Sl bv w0 vp x.ps) (h4 : -9223372036854775808 ≤ x.n ∧ x.n ≤ 9223372036854775807) (v : Value) (l : List Wop) (hl : Wops w0 v l) (hlen : l.length ≤ 1048576)
    (hs : a.eval s = .slice (some ⟨w0.heap.size, 0, none⟩) 1 1) (hx : a.eval y = v)
    (h : ∀ v' w', Wops w' v' (x :: l) → Ext w0 w' → wpList Tryd.prog ops Q rest (a.put o.dst v') w') : wpList Tryd.prog ops Q (o :: rest) a (w0.alloc (.cells #[.int .i64 x.what, .int .i64 x.n, vb, vl, vp] 61)) := by
  refine wpList_plain hgd fun K hK => ?_
  obtain ⟨v', w', hr, h2, h3⟩ := run_appendOps w0 o.type x vb vl vp h1 h2 h3 h4 v l hl hlen
  unfold Oper.wp execOp
  simp only [ho, resolve, invoke, builtin, Sem.run_bind, Sem.run_pure, Result.andThen_ok, List.map_toArray, List.map_cons, List.map_nil, hs, hx, hr]
  exact hK _ _ (h v' w' h2 h3)
end Go.Proofs.YtmpjcnopakfdmaaDoor
