/- What is done to a store, as cells: opened; one thing ahead of others. -/
import Derived.Test.YtkdmljijgfejpaaDoorGKp
import Derived.Test.YtkdmljijgfejpaaDoorRows
namespace Go.Proofs.YtkdmljijgfejpaaDoor
set_option linter.unusedVariables false
set_option linter.unusedSimpArgs false
open Go.ChangeShapes Go.WideShapes Go.ChangeAt Go.RowKit
set_option maxRecDepth 20000
structure Kop where
  what : Int
  n : Int
  ls : List Kv.Ch
  ps : List Bool
  bs : List UInt8
def KopC (w : World) (x : Kop) (cs : List Value) : Prop := ∃ vl vp vb, cs = [.int .i64 x.what, .int .i64 x.n, vl, vp, vb] ∧ Chs w vl x.ls ∧ Sl bv w vp x.ps ∧ Bytes w vb x.bs
theorem KopC.ext {w w' : World} {x : Kop} {cs : List Value} (h : KopC w x cs) (e : Ext w w') : KopC w' x cs := let ⟨vl, vp, vb, h1, h2, h3, h4⟩ := h; ⟨vl, vp, vb, h1, h2.ext e, h3.ext e, h4.ext e⟩
abbrev Kops (w : World) (v : Value) (l : List Kop) : Prop := Rw 5 (KopC w) w v l
theorem Kops.ext {w w' : World} {v : Value} {l : List Kop} (h : Kops w v l) (e : Ext w w') : Kops w' v l := Rw.ext h e fun _ _ _ h => h.ext e
theorem Rw.shape {α : Type} {k : Nat} {C : α → List Value → Prop} {w : World} {v : Value} {l : List α} (h : Rw k C w v l) : ∃ a cap, v = .slice a l.length cap ∧ (l.length : Int) ≤ 9223372036854775807 ∧
    ∀ j x, l[j]? = some x → ∃ g o cs, a = some ⟨g, o, none⟩ ∧ w.rangeAt g (o + j * k) cs ∧ C x cs := by
  obtain ⟨a, cap, h1, h2, h3, h4, h5⟩ := h
  refine ⟨a, cap, h1, by unfold maxLen at h3; omega, fun j x hj => ?_⟩
  obtain ⟨g, o, cs, k1, -, k3, k4⟩ := h5 j x hj
  exact ⟨g, o, cs, k1, k3, k4⟩
theorem cells8' : Tryd.prog.cellsOf 5 = 1 := by kernel_rfl
theorem cellsBs : Tryd.prog.cellsOf 23 = 1 := by kernel_rfl
theorem cellsB' : Tryd.prog.cellsOf 4 = 1 := by kernel_rfl
theorem cellsKop : Tryd.prog.cellsOf 49 = 5 := by kernel_rfl
theorem cellsLs : Tryd.prog.cellsOf 22 = 1 := by kernel_rfl
theorem cellsPs : Tryd.prog.cellsOf 47 = 1 := by kernel_rfl
theorem cellsI' : Tryd.prog.cellsOf 3 = 1 := by kernel_rfl
section
variable {H : Type} {enc : TypeId × Value → H} {W : World} {n : Nat} {v : Value} {x : DataW H × List MemPlace}
theorem bytes_of (hf : DataW.trod enc Tryd.prog W 0 (fun _ => true) true n 23 [v] = some x) : ∃ l, Bytes W v l := by
  rcases open_ints Tryd.underlying23 Tryd.underlying5 cells8' hf with ⟨hcs, hx⟩ | ⟨a, len, cap, zs, hcs, _, hl, hm, hz, hx, hcell, hwz⟩
  · obtain rfl : v = .slice none 0 0 := by simpa using hcs
    exact ⟨[], Bytes.nil W⟩
  · obtain rfl : v = .slice (some a) len cap := by simpa using hcs
    simp only [if_true] at hz
    refine ⟨u8s (zs.take len), some a, cap, ?_, ?_, hm, fun h => by simp at h, fun j hj => ?_⟩
    · simp [u8s, hz, Nat.min_eq_left hl]
    · simp [u8s, hz, Nat.min_eq_left hl, hl]
    · have hj' : j < len := by simpa [u8s, hz, Nat.min_eq_left hl] using hj
      have hc := hcell j (by omega)
      obtain ⟨g, o, rfl⟩ : ∃ g o, a = ⟨g, o, none⟩ := sel_none (hcell 0 (by omega))
      refine ⟨g, o, rfl, ?_⟩
      rw [Addr.add_lit] at hc
      rw [hc]
      have hw := hwz (zs.getD j 0) (by
        have : j < zs.length := by omega
        simp [List.getD, this])
      have e : (u8s (zs.take len))[j] = UInt8.ofNat (zs.getD j 0).toNat := by
        have : j < zs.length := by omega
        simp [u8s, List.getD, this]
      rw [e, u8_of hw]
theorem bls_of (hf : DataW.trod enc Tryd.prog W 0 (fun _ => true) true n 47 [v] = some x) : ∃ l, Sl bv W v l := by
  rcases Go.Deep.open_bools Tryd.underlying47 Tryd.underlying4 cellsB' hf with ⟨hcs, hx⟩ | ⟨a, len, cap, B, hcs, _, hl, hm, hx, hcell⟩
  · obtain rfl : v = .slice none 0 0 := by simpa using hcs
    exact ⟨[], Sl.nil W⟩
  · obtain rfl : v = .slice (some a) len cap := by simpa using hcs
    have hlen : ((List.range len).map B).length = len := by simp
    refine ⟨(List.range len).map B, some a, cap, by rw [hlen], by rw [hlen]; exact hl, hm, fun h => by simp at h, fun j x hj => ?_⟩
    have hj' : j < len := by rw [← hlen]; exact (List.getElem?_eq_some_iff.1 hj).1
    have h0 := hcell 0 (by omega)
    have hc := hcell j (by omega)
    obtain ⟨g, o, rfl⟩ : ∃ g o, a = ⟨g, o, none⟩ := sel_none h0
    refine ⟨g, o, rfl, ?_⟩
    rw [Addr.add_lit] at hc
    rw [hc]
    rw [List.getElem?_map, List.getElem?_range hj'] at hj
    simp only [Option.map_some, Option.some.injEq] at hj
    rw [← hj]; rfl
theorem kop_of {cs : List Value} (hl : cs.length = 5) (hf : DataW.trod enc Tryd.prog W 0 (fun _ => true) true n 49 cs = some x) : ∃ q, KopC W q cs := by
  obtain ⟨xs, m, _, _, -, hn, h⟩ := DataW.trod_struct Tryd.underlying49 hf
  match cs, hl with
  | [c0, c1, c2, c3, c4], _ =>
    have hn5 : xs.length = 5 := hn
    match xs, hn5 with
    | [y0, y1, y2, y3, y4], _ =>
      have h0 : DataW.trod enc Tryd.prog W 0 (fun _ => true) true m 3 (([c0, c1, c2, c3, c4].drop 0).take (Tryd.prog.cellsOf 3)) = [y0, y1, y2, y3, y4][0]? := h 0 _ rfl
      have h1 : DataW.trod enc Tryd.prog W 0 (fun _ => true) true m 3 (([c0, c1, c2, c3, c4].drop 1).take (Tryd.prog.cellsOf 3)) = [y0, y1, y2, y3, y4][1]? := h 1 _ rfl
      have h2 : DataW.trod enc Tryd.prog W 0 (fun _ => true) true m 22 (([c0, c1, c2, c3, c4].drop 2).take (Tryd.prog.cellsOf 22)) = [y0, y1, y2, y3, y4][2]? := h 2 _ rfl
      have h3 : DataW.trod enc Tryd.prog W 0 (fun _ => true) true m 47 (([c0, c1, c2, c3, c4].drop 3).take (Tryd.prog.cellsOf 47)) = [y0, y1, y2, y3, y4][3]? := h 3 _ rfl
      have h4 : DataW.trod enc Tryd.prog W 0 (fun _ => true) true m 23 (([c0, c1, c2, c3, c4].drop 4).take (Tryd.prog.cellsOf 23)) = [y0, y1, y2, y3, y4][4]? := h 4 _ rfl
      simp only [cellsBs, cellsLs, cellsPs, cellsI', List.drop_zero, List.drop_succ_cons, List.take_succ_cons, List.take_zero, List.getElem?_cons_zero, List.getElem?_cons_succ] at h0 h1 h2 h3 h4
      obtain ⟨n0, e0, -, -⟩ := DataW.trod_int Tryd.underlying3 h0
      obtain ⟨n1, e1, -, -⟩ := DataW.trod_int Tryd.underlying3 h1
      obtain ⟨l2, hl2⟩ := chs_of h2
      obtain ⟨l3, hl3⟩ := bls_of h3
      obtain ⟨l4, hl4⟩ := bytes_of h4
      obtain rfl : c0 = .int .i64 n0 := by simpa using e0
      obtain rfl : c1 = .int .i64 n1 := by simpa using e1
      exact ⟨⟨n0, n1, l2, l3, l4⟩, c2, c3, c4, rfl, hl2, hl3, hl4⟩
end
theorem bulk_one {H : Type} (d : DataW H) : 1 ≤ Rows.uptoBulk d := by
  cases d with
  | lit l => cases l <;> simp [Rows.uptoBulk]
  | nil => simp [Rows.uptoBulk]
  | ptr d => simp [Rows.uptoBulk]
  | slice elems spare => simp [Rows.uptoBulk]
  | agg parts => simp [Rows.uptoBulk]
  | iface t d => simp [Rows.uptoBulk]
  | map entries => simp [Rows.uptoBulk]
  | held h => simp [Rows.uptoBulk]
theorem bulk_part {H : Type} {d : DataW H} {l : List (DataW H)} (h : d ∈ l) : Rows.uptoBulk d ≤ Rows.uptoBulkAll l := by
  induction l with
  | nil => cases h
  | cons x r ih =>
    simp only [Rows.uptoBulkAll]
    cases List.mem_cons.1 h with
    | inl e => subst e; omega
    | inr e => have := ih e; omega
theorem bulk_len {H : Type} (l : List (DataW H)) : l.length ≤ Rows.uptoBulkAll l := by
  induction l with
  | nil => simp [Rows.uptoBulkAll]
  | cons x r ih => have := bulk_one x; simp only [Rows.uptoBulkAll, List.length_cons]; omega
theorem bulk_slice {H : Type} (elems spare : List (DataW H)) : elems.length ≤ Rows.uptoBulk (.slice elems spare) := by
  have h1 := bulk_len elems
  simp only [Rows.uptoBulk]
  omega
theorem bulk_bound {H : Type} {l : List (DataW H)} (hk : Rows.uptoSmall H l = true) : Rows.uptoBulkAll l ≤ 1048576 := of_decide_eq_true hk
section
variable {H : Type} {enc : TypeId × Value → H} {W : World} {base : Nat} {v : Value} {d : DataW H} {p : List MemPlace}
theorem open_kopsU (hval : Value.okWide Tryd.prog W .any base 45 v) (h : DataW.Trod enc Tryd.prog W 0 (fun _ => true) true 45 v d p) (hb : Rows.uptoBulk d ≤ 1048576) : ∃ l, Kops W v l ∧ l.length ≤ 1048576 := by
  obtain ⟨ls, hl⟩ : ∃ ls, Kops W v ls := by
    obtain ⟨_, _, hf⟩ := okw_slice Tryd.underlying45 hval h
    exact rows_of Tryd.underlying45 cellsKop (by decide) (fun _ _ _ hl h => kop_of hl h) hf
  obtain ⟨a0, len0, cap0, rfl⟩ := okWide_slice Tryd.underlying45 hval
  obtain ⟨fuel, hf⟩ := h
  refine ⟨ls, hl, ?_⟩
  obtain ⟨a, cap, e, -⟩ := hl
  cases e
  rcases Go.Deep.open_slice Tryd.underlying45 hf with ⟨hcs, -⟩ | ⟨a, len, cap, m, n, D, Pl, hcs, _, hl, hm, hmm, hx, hi⟩
  · simp [Value.cells] at hcs
    rw [hcs.2.1]; exact Nat.zero_le _
  · simp [Value.cells] at hcs
    obtain ⟨rfl, h2, rfl⟩ := hcs
    have hd : d = .slice ((List.range len).map D) ((List.range (m - len)).map fun j => D (len + j)) := congrArg Prod.fst hx
    rw [hd] at hb
    have := bulk_slice ((List.range len).map D) ((List.range (m - len)).map fun j => D (len + j))
    rw [List.length_map, List.length_range] at this
    omega
end
end Go.Proofs.YtkdmljijgfejpaaDoor


namespace Go.Proofs.YtkdmljijgfejpaaDoor
set_option linter.unusedVariables false
set_option linter.unusedSimpArgs false
open Go.ChangeShapes Go.WideShapes Go.ChangeAt Go.RowKit Kv
set_option maxRecDepth 20000
theorem info_kop : (Tryd.prog.info? 49).map (fun i => (i.zero, i.size, i.bytes)) = some (some (.agg #[.int .i64 0, .int .i64 0, .slice none 0 0, .slice none 0 0, .slice none 0 0]), 5, 88) := by kernel_rfl
theorem KopC.one {w : World} {x : Kop} {cs : List Value} (h : KopC w x cs) : ∀ u ∈ cs, u.oneCell' = true := fun u hu => by
  obtain ⟨vl, vp, vb, rfl, ⟨a1, c1, rfl, -⟩, ⟨a2, c2, rfl, -⟩, ⟨a3, c3, rfl, -⟩⟩ := h
  simp only [List.mem_cons, List.not_mem_nil, or_false] at hu
  rcases hu with rfl | rfl | rfl | rfl | rfl <;> rfl
theorem KopC.len {w : World} {x : Kop} {cs : List Value} (h : KopC w x cs) : cs.length = 5 := by
  obtain ⟨vl, vp, vb, rfl, -⟩ := h; rfl
/-- the cells of a slice -/
theorem kops_cells {w : World} {ad : Addr} {cap : Nat} {l : List Kop} (h : Kops w (.slice (some ad) l.length cap) l) :
    ∃ us : List Value, us.length = l.length * 5 ∧ (∀ j u, us[j]? = some u → w.cell? (ad.add j) = some u) ∧ (∀ u ∈ us, u.oneCell' = true) ∧ ∀ j x, l[j]? = some x → ∃ cs, KopC w x cs ∧ ∀ i u, cs[i]? = some u → us[j * 5 + i]? = some u := by
  obtain ⟨a', cap', hv, h2, h3, h4, h5⟩ := h
  cases hv
  have key : ∀ j x, l[j]? = some x → ∃ cs, KopC w x cs ∧ ∀ i u, cs[i]? = some u → w.cell? (ad.add (j * 5 + i)) = some u := fun j x hj => by
    obtain ⟨g, o, cs, e, -, hr, hc⟩ := h5 j x hj
    cases e
    refine ⟨cs, hc, fun i u hu => ?_⟩
    rw [Addr.add_lit, ← Nat.add_assoc]
    exact hr i u hu
  have at_ : ∀ t, t < l.length * 5 → ∃ u, w.cell? (ad.add t) = some u ∧ u.oneCell' = true := fun t ht => by
    have hq : t / 5 < l.length := by omega
    obtain ⟨cs, hc, hr⟩ := key (t / 5) l[t / 5] (List.getElem?_eq_getElem hq)
    have hl := hc.len
    have hi : t % 5 < cs.length := by omega
    have := hr (t % 5) cs[t % 5] (List.getElem?_eq_getElem hi)
    rw [show t / 5 * 5 + t % 5 = t by omega] at this
    exact ⟨_, this, hc.one _ (List.getElem_mem hi)⟩
  have hg : ∀ t, t < l.length * 5 → ((List.range (l.length * 5)).map fun t => (w.cell? (ad.add t)).getD undef)[t]? = w.cell? (ad.add t) := fun t ht => by
    obtain ⟨u, hu, -⟩ := at_ t ht
    rw [List.getElem?_map, List.getElem?_range ht, Option.map_some, hu]; rfl
  refine ⟨(List.range (l.length * 5)).map fun t => (w.cell? (ad.add t)).getD undef, by simp, fun j u hu => ?_, fun u hu => ?_, fun j x hj => ?_⟩
  · have hj : j < l.length * 5 := by have := (List.getElem?_eq_some_iff.1 hu).1; simpa using this
    rw [hg j hj] at hu; exact hu
  · obtain ⟨t, ht, rfl⟩ := List.mem_map.1 hu
    obtain ⟨u, hu, h1⟩ := at_ t (List.mem_range.1 ht)
    rw [hu]; exact h1
  · obtain ⟨cs, hc, hr⟩ := key j x hj
    refine ⟨cs, hc, fun i u hu => ?_⟩
    have hi := (List.getElem?_eq_some_iff.1 hu).1
    have hl := hc.len
    have hjl := (List.getElem?_eq_some_iff.1 hj).1
    rw [hg _ (by omega)]
    exact hr i u hu
/-- 'append([]Op{o}, l...)' -/
theorem run_appendKops (w0 : World) (ty : TypeId) (x : Kop) (cs : List Value) (hx : KopC w0 x cs) (v : Value) (l : List Kop) (h : Kops w0 v l) (hlen : l.length ≤ 1048576) :
    ∃ v' w', (Builtin.append_ #[45, 45] ty #[.slice (some ⟨w0.heap.size, 0, none⟩) 1 1, v]).run Tryd.prog (w0.alloc (.cells cs.toArray 49)) = .ok v' w' ∧ Kops w' v' (x :: l) ∧ Ext w0 w' := by
  obtain ⟨W, hW⟩ : ∃ W, W = w0.alloc (.cells cs.toArray 49) := ⟨_, rfl⟩
  have e0 : Ext w0 W := by rw [hW]; exact (Ext.refl w0).alloc _
  have hB : W.heap[w0.heap.size]? = some (.cells cs.toArray 49 (0, 0)) := by rw [hW]; exact heap_alloc_new w0 _
  rw [← hW]
  have hcl := hx.len
  have hown : W.ownsRow w0.heap.size 49 5 (.slice (some ⟨w0.heap.size, 0, none⟩) 1 1) 1 cs :=
    ⟨hcl, .inr ⟨w0.heap.size, 1, _, rfl, Nat.le_refl _, hB, Nat.le_refl _, by simp [maxLen], by simp [hcl], by show cs.take (1 * 5) = cs; exact List.take_of_length_le (by omega)⟩⟩
  obtain ⟨i, hi, hz0, hz1, hz2⟩ := info_parts info_kop
  obtain ⟨a, cap, rfl, h2, h3, h4, -⟩ := id h
  -- the rows behind it
  have fin : ∀ (us : List Value) (v' : Value) (w' : World), us.length = l.length * 5 → (∀ j y, l[j]? = some y → ∃ ds, KopC w0 y ds ∧ ∀ i u, ds[i]? = some u → us[j * 5 + i]? = some u) → w'.ownsRow w0.heap.size 49 5 v' (1 + l.length) (cs ++ us) → Ext w0 w' → Kops w' v' (x :: l) := fun us v' w' hul hus hr e' => by
    obtain ⟨hr1, hr⟩ := hr
    rcases hr with ⟨-, hn⟩ | ⟨g, cap', cur, rfl, hb, hh, hn, hm, hs, ht⟩
    · omega
    · have hcell : ∀ t u, (cs ++ us)[t]? = some u → w'.cell? ⟨g, t, none⟩ = some u := fun t u hu => by
        have hlt : t < (1 + l.length) * 5 := by rw [← hr1]; exact (List.getElem?_eq_some_iff.1 hu).1
        rw [← ht, List.getElem?_take_of_lt hlt, Array.getElem?_toList] at hu
        rw [cell_of_row _ _ _ _ _ _ hh]; exact hu
      refine ⟨_, cap', by rw [List.length_cons, Nat.add_comm], by rw [List.length_cons]; omega, hm, (fun h => by cases h), fun j y hj => ?_⟩
      cases j with
      | zero =>
        simp only [List.getElem?_cons_zero, Option.some.injEq] at hj
        subst hj
        refine ⟨g, 0, cs, rfl, hcl, fun i u hu => ?_, hx.ext e'⟩
        have := (List.getElem?_eq_some_iff.1 hu).1
        exact hcell _ u (by simp only [Nat.zero_mul, Nat.zero_add]; rw [List.getElem?_append_left this]; exact hu)
      | succ j =>
        rw [List.getElem?_cons_succ] at hj
        obtain ⟨ds, hc, hd⟩ := hus j y hj
        refine ⟨g, 0, ds, rfl, hc.len, fun i u hu => hcell _ u ?_, hc.ext e'⟩
        rw [List.getElem?_append_right (by rw [hcl, Nat.add_mul]; omega), hcl, show 0 + (j + 1) * 5 + i - 5 = j * 5 + i by omega]
        exact hd i u hu
  cases a with
  | none =>
    obtain rfl := h4 rfl
    have hl0 : l = [] := List.eq_nil_of_length_eq_zero (by omega)
    subst hl0
    refine ⟨_, W, run_append_owned_none (P := Tryd.prog) W w0.heap.size 45 ty 49 i 5 Tryd.underlying45 hi _ _ _ hown, ?_, e0⟩
    exact fin [] _ W rfl (fun j y hj => by simp at hj) (by simpa using hown) e0
  | some ad =>
    obtain ⟨us, u1, u2, u3, u4⟩ := kops_cells h
    obtain ⟨v', w', q1, q2, q3, -, -⟩ := run_append_own_at (P := Tryd.prog) W w0.heap.size 45 ty 49 i _ 5 88 Tryd.underlying45 hi hz0 hz1 hz2 rfl (by decide) _ 1 cs hown ad l.length cap us u1 (fun j u hu => e0.cell (u2 j u hu)) u3 (by unfold maxLen; omega) (by omega) e0.size
    have c : Chg (fun k => k = w0.heap.size) W w' := (Chg.refl (fun k => k = w0.heap.size) W).grown q3 fun k hk _ => (Option.some.inj hk).symm
    have e' : Ext w0 w' := e0.chg c fun i hi => by rw [hi]; exact Nat.le_refl _
    exact ⟨v', w', q1, fin us v' w' u1 u4 q2 e', e'⟩
theorem wpList_appendKops {ops : Array Oper} {rest : List Oper} {o : Oper} {a : Act} {w : World} {Q : Exit → Act → World → Prop} (hgd : o.guard = none) (s y : Operand)
    (ho : o.op = .call { callee := .builtin .append, args := #[s, y], argTypes := #[45, 45] })
    (w0 : World) (x : Kop) (cs : List Value) (hw : w = w0.alloc (.cells cs.toArray 49)) (hx : KopC w0 x cs) (v : Value) (l : List Kop) (h : Kops w0 v l) (hlen : l.length ≤ 1048576) (hs : a.eval s = .slice (some ⟨w0.heap.size, 0, none⟩) 1 1) (hy : a.eval y = v)
    (hK : ∀ v' w', Kops w' v' (x :: l) → Ext w0 w' → wpList Tryd.prog ops Q rest (a.put o.dst v') w') : wpList Tryd.prog ops Q (o :: rest) a w := by
  subst hw
  refine wpList_plain hgd fun K hK' => ?_
  obtain ⟨v', w', hr, h2, h3⟩ := run_appendKops w0 o.type x cs hx v l h hlen
  unfold Oper.wp execOp
  simp only [ho, resolve, invoke, builtin, Sem.run_bind, Sem.run_pure, Result.andThen_ok, List.map_toArray, List.map_cons, List.map_nil, hs, hy]
  simp only [hr, Result.andThen_ok]
  exact hK' _ _ (hK v' w' h2 h3)
/-! ### few -/
def okK (x : Kop) : Bool := fewC x.ls && (decide (x.ps.length ≤ 50) && decide (x.bs.length ≤ 100))
def fewK (l : List Kop) : Bool := l.all okK && decide (l.length ≤ 20)
theorem fewK_no {l : List Kop} {j : Nat} (hj : j < l.length) (h : okK l[j] = false) : fewK l = false := by
  unfold fewK
  have : l.all okK = false := by rw [List.all_eq_false]; exact ⟨l[j], List.getElem_mem hj, by simp [h]⟩
  rw [this]; rfl
set_option maxRecDepth 20000 in
set_option maxHeartbeats 4000000 in
theorem fewK_any (v : Value) (l : List Kop) (w : World) (h : Kops w v l) :
    Calls Tryd.prog 21 #[v] w fun e w' => e = .returned (.bool (fewK l)) ∧ w = w' := by
  obtain ⟨a, cap, rfl, hlm, hget⟩ := h.shape
  have hgh := Lib.hid hget
  clear h hget
  go_enter Tryd.func21, Tryd.ntmps21
  go_wp2
  go_loopw [3] (fun i wr => ∃ k : Nat, k ≤ l.length ∧ i = .int .i64 (k : Int) ∧ RowKit.Hid ((l.take k).all okK = true) ∧ wr = w) (fun i _ => l.length - (intOf i).toNat)
  case atStart => exact ⟨0, Nat.zero_le _, rfl, Lib.hid rfl, rfl⟩
  case round =>
    obtain ⟨k, hk, rfl, ho, rfl⟩ := hrel
    by_cases hlt : k < l.length
    · obtain ⟨g, o, cs, rfl, hr, vl, vp, vb, rfl, h2, h3, h4⟩ := hgh.out k l[k] (List.getElem?_eq_getElem hlt)
      have hfw := refFew_any vl _ wr h2
      obtain ⟨a2, q2, rfl, -⟩ := h2.shape
      obtain ⟨a3, q3, rfl, -⟩ := h3
      obtain ⟨a4, q4, rfl, -⟩ := h4
      have c2 := hr 2 _ rfl
      have c3 := hr 3 _ rfl
      have c4 := hr 4 _ rfl
      have hki : (k : Int) < (l.length : Int) := by omega
      have hw1 : IntKind.i64.wrap ((k : Int) + 1) = (k : Int) + 1 := by rw [IntKind.wrap_i64]; omega
      have hnx := Lib.hid (fun (h : okK l[k] = true) => (by rw [List.take_add_one, List.getElem?_eq_getElem hlt, List.all_append, ho.out]; simp [h] : (l.take (k + 1)).all okK = true))
      have hno := Lib.hid (@fewK_no l k hlt)
      have hoi := Lib.hid (show okK l[k] = (fewC l[k].ls && (decide (l[k].ps.length ≤ 50) && decide (l[k].bs.length ≤ 100))) from rfl)
      rw [hoi.out] at hnx hno
      clear hr h2 hoi
      generalize l[k] = x at *
      cases hf : fewC x.ls
      · have hn := Lib.hid (hno.out (by rw [hf]; rfl))
        rw [hf] at hfw
        clear hno hnx
        go_wp2_with (go_at_call 15; refine hfw.mono ?_; rintro e w1 ⟨rfl, rfl⟩)
        go_ret
        exact ⟨by rw [hn.out]; rfl, rfl⟩
      · rw [hf] at hfw
        by_cases h5 : x.ps.length ≤ 50
        · have d5 : ¬ (50 : Int) < (x.ps.length : Int) := by omega
          by_cases h6 : x.bs.length ≤ 100
          · have d6 : ¬ (100 : Int) < (x.bs.length : Int) := by omega
            have hn := Lib.hid (hnx.out (by rw [hf]; simp [h5, h6]))
            clear hno hnx h5 h6 hf
            go_wp2_with (go_at_call 15; refine hfw.mono ?_; rintro e w1 ⟨rfl, rfl⟩)
            go_roundw
            case rel => exact ⟨k + 1, by omega, by go_num, hn, trivial⟩
            case measure => simp [intOf]; omega
          · have d6 : (100 : Int) < (x.bs.length : Int) := by omega
            have hn := Lib.hid (hno.out (by rw [hf]; simp [h6]))
            clear hno hnx h5 h6 hf
            go_wp2_with (go_at_call 15; refine hfw.mono ?_; rintro e w1 ⟨rfl, rfl⟩)
            go_ret
            exact ⟨by rw [hn.out]; rfl, rfl⟩
        · have d5 : (50 : Int) < (x.ps.length : Int) := by omega
          have hn := Lib.hid (hno.out (by rw [hf]; simp [h5]))
          clear hno hnx h5 hf
          go_wp2_with (go_at_call 15; refine hfw.mono ?_; rintro e w1 ⟨rfl, rfl⟩)
          go_ret
          exact ⟨by rw [hn.out]; rfl, rfl⟩
    · obtain rfl : k = l.length := by omega
      rw [List.take_length] at ho
      have hE := Lib.hid (show fewK l = decide (l.length ≤ 20) from by unfold fewK; rw [ho.out]; rfl)
      go_wp2
      go_ret
      refine ⟨by rw [hE.out]; go_num, rfl⟩
end Go.Proofs.YtkdmljijgfejpaaDoor


namespace Go.Proofs.YtkdmljijgfejpaaDoor
set_option linter.unusedVariables false
set_option linter.unusedSimpArgs false
open Go.RowKit Kv Dk Wl Fr

def stepK (s : Lg × List Kv.Pr) (x : Kop) : Lg × List Kv.Pr :=
  if x.what = 1 then (comL x.ls s.1 s.2).2 else if x.what = 2 then ((opL (.rep (snap s.2)) s.1).2, s.2) else s
def kw (n : Nat) (l : List Kop) : Lg × List Kv.Pr := l.foldl stepK (g0 n, [])
theorem kw_take {n : Nat} {l : List Kop} {k : Nat} (hk : k < l.length) : kw n (l.take (k + 1)) = stepK (kw n (l.take k)) l[k] := by
  unfold kw
  rw [List.take_add_one, List.getElem?_eq_getElem hk, List.foldl_append]; rfl
theorem fewC_len {l : List Ch} (h : fewC l = true) : l.length ≤ 12 := by
  unfold fewC at h
  rw [Bool.and_eq_true, decide_eq_true_eq] at h
  exact h.2
theorem okK_ls {x : Kop} (h : okK x = true) : x.ls.length ≤ 12 := by
  unfold okK at h
  rw [Bool.and_eq_true] at h
  exact fewC_len h.1
theorem step_KI {c n b : Nat} {s : Lg × List Kv.Pr} (h : KI c s.1 s.2) (hn : s.1.d.n = n) (hl : s.2.length ≤ 12 * b) (hg : s.1.h.gen ≤ b) (x : Kop) (hx : x.ls.length ≤ 12) :
    KI c (stepK s x).1 (stepK s x).2 ∧ (stepK s x).1.d.n = n ∧ (stepK s x).2.length ≤ 12 * (b + 1) ∧ (stepK s x).1.h.gen ≤ b + 1 := by
  unfold stepK
  split
  · obtain ⟨h1, h2, h3, h4⟩ := com_calm h x.ls
    refine ⟨h1, h2.trans hn, ?_, by omega⟩
    have := after_len x.ls s.2
    rcases h4 with ⟨-, e⟩ | ⟨-, e⟩ <;> rw [e] <;> omega
  · split
    · obtain ⟨h1, h2, -⟩ := cpt_calm h
      exact ⟨h1, h2.trans hn, by show s.2.length ≤ _; omega, Nat.le_trans (op_gen (.rep (snap s.2)) s.1) (by omega)⟩
    · exact ⟨h, hn, by omega, by omega⟩
theorem kw_KI {n : Nat} (h4 : 4 ≤ n) (h512 : n ≤ 512) (c : Nat) (l : List Kop) (hl : ∀ x ∈ l, x.ls.length ≤ 12) : KI c (kw n l).1 (kw n l).2 ∧ (kw n l).1.d.n = n ∧ (kw n l).2.length ≤ 12 * l.length ∧ (kw n l).1.h.gen ≤ l.length := by
  have key : ∀ (l : List Kop) (s : Lg × List Kv.Pr) (b : Nat), (∀ x ∈ l, x.ls.length ≤ 12) → KI c s.1 s.2 → s.1.d.n = n → s.2.length ≤ 12 * b → s.1.h.gen ≤ b → KI c (l.foldl stepK s).1 (l.foldl stepK s).2 ∧ (l.foldl stepK s).1.d.n = n ∧ (l.foldl stepK s).2.length ≤ 12 * (b + l.length) ∧ (l.foldl stepK s).1.h.gen ≤ b + l.length := fun l => by
    induction l with
    | nil => intro s b _ h1 h2 h3 h4; exact ⟨h1, h2, by simpa using h3, by simpa using h4⟩
    | cons x l ih =>
      intro s b hl h1 h2 h3 h4
      obtain ⟨k1, k2, k3, k4⟩ := step_KI h1 h2 h3 h4 x (hl x (by simp))
      have := ih (stepK s x) (b + 1) (fun y hy => hl y (by simp [hy])) k1 k2 k3 k4
      rw [List.foldl_cons, List.length_cons]
      rw [show b + (l.length + 1) = b + 1 + l.length by omega]
      exact this
  have := key l (g0 n, []) 0 hl (KI.new h4 h512 c) (mk_n n) (Nat.zero_le _) (Nat.zero_le _)
  rw [Nat.zero_add] at this
  exact this
attribute [local irreducible] kw comL opL
set_option maxRecDepth 20000 in
set_option maxHeartbeats 4000000 in
theorem walked11_any (b : UInt8) (v : Value) (l : List Kop) (w : World) (h : Kops w v l) (hf : ∀ x ∈ l, x.ls.length ≤ 12) (hl20 : l.length ≤ 20) (hw : Halves w) :
    Calls Tryd.prog 22 #[.int .u8 (b.toNat : Int), v] w (Ret fun u w' => ∃ p s, u = .tuple #[.pointer (some ⟨p, 0, none⟩), .pointer (some ⟨s, 0, none⟩)] ∧ Ext w w' ∧ StM w' (from_ w) s p (kw (nB b) l).1 (kw (nB b) l).2) := by
  obtain ⟨a, cap, rfl, hlm, hget⟩ := h.shape
  have hgh := Lib.hid hget
  have hfh := Lib.hid hf
  have hwh := Lib.hid hw
  have hki := Lib.hid (fun k => kw_KI (nB_le b).1 (Nat.le_trans (nB_le b).2 (by decide)) 0 (l.take k) (fun x hx => hf x (List.mem_of_mem_take hx)))
  have hst : RowKit.Hid (kw (nB b) (l.take 0) = (g0 (nB b), [])) := Lib.hid (by unfold kw; rfl)
  have hM := made_any b w hw
  have h20 := Lib.hid hl20
  clear h hget hf hw hl20
  generalize nB b = N at *
  go_enter Tryd.func22, Tryd.ntmps22
  go_wp2_with (go_at_call 30; refine hM.mono ?_; rintro e w1 ⟨r, rfl, p, s, rfl, e1, k1⟩)
  have k1h := Lib.hid (show StM w1 (from_ w) s p (kw N (l.take 0)).1 (kw N (l.take 0)).2 from by rw [hst.out]; exact k1)
  have e1h := Lib.hid e1
  clear hM k1 e1 hst
  go_loopw [8] (fun i wr => ∃ k : Nat, k ≤ l.length ∧ i = .int .i64 (k : Int) ∧ RowKit.Hid (StM wr (from_ w) s p (kw N (l.take k)).1 (kw N (l.take k)).2) ∧ RowKit.Hid (Ext w wr)) (fun i _ => l.length - (intOf i).toNat)
  case atStart => exact ⟨0, Nat.zero_le _, rfl, k1h, e1h⟩
  case round =>
    obtain ⟨k, hk, rfl, hd, ek⟩ := hrel
    by_cases hlt : k < l.length
    · obtain ⟨g, o, cs, rfl, hr, vl, vp, vb, rfl, h2, h3, h4⟩ := hgh.out k l[k] (List.getElem?_eq_getElem hlt)
      have hkl : (k : Int) < (l.length : Int) := by omega
      have hw1 : IntKind.i64.wrap ((k : Int) + 1) = (k : Int) + 1 := by rw [IntKind.wrap_i64]; omega
      have hnx := Lib.hid (kw_take (n := N) hlt)
      have c0 : wr.cell? ⟨g, o + k * 5, none⟩ = some (.int .i64 l[k].what) := ek.out.cell (hr 0 _ rfl)
      have c2 : wr.cell? ⟨g, o + k * 5 + 2, none⟩ = some vl := ek.out.cell (hr 2 _ rfl)
      have hr0 := Lib.hid (show ∀ W, Ext w W → W.cell? ⟨g, o + k * 5, none⟩ = some (.int .i64 l[k].what) from fun W e => e.cell (hr 0 _ rfl))
      obtain ⟨a2, q2, rfl, -⟩ := id h2.shape
      obtain ⟨s1, s2, s3, s4⟩ := hki.out k
      rw [List.length_take] at s3
      have hx12 := hfh.out l[k] (List.getElem_mem hlt)
      have h20' := h20.out
      have hst : (kw N (l.take k)).1.d.st.length ≤ 90000 := by rw [s1.st]; exact Nat.zero_le _
      have hC := Lib.hid (kvCommit_any hd.out s1.sane hst (hwh.out.ext ek.out) (not_from hwh.out) (h2.ext ek.out) (by omega) (by omega) s1.oks (fun _ => snapOk_any))
      have hP := Lib.hid (kvCompact_any hd.out s1.sane hst (hwh.out.ext ek.out) (not_from hwh.out) (by omega) s1.oks)
      have hsk := Lib.hid (fun s => show stepK s l[k] = if l[k].what = 1 then (comL l[k].ls s.1 s.2).2 else if l[k].what = 2 then ((opL (.rep (snap s.2)) s.1).2, s.2) else s from rfl)
      clear hr h2 h3 h4 s1 s2 s3 s4 hx12 h20' hst
      generalize l[k] = x at *
      generalize kw N (l.take k) = S at *
      rw [hsk.out] at hnx
      by_cases x1 : x.what = 1
      · have hnx2 := Lib.hid (hnx.out.trans (if_pos x1))
        have hCx := hC.out
        rw [x1] at c0 hr0
        clear hnx hC hP hsk x1
        go_wp2_with (go_at_call 18; refine hCx.mono ?_; rintro e w2 ⟨rfl, d2, k2⟩; have c02 := hr0.out w2 (from_after ek.out d2))
        go_roundw
        case rel => exact ⟨k + 1, by omega, by go_num, Lib.hid (by rw [hnx2.out]; exact k2.mono (from_grow ek.out)), Lib.hid (from_after ek.out d2)⟩
        case measure => simp [intOf]; omega
      · have hnx1 := Lib.hid (hnx.out.trans (if_neg x1))
        have b1 := beq_ff x1
        by_cases x2 : x.what = 2
        · have hnx2 := Lib.hid (hnx1.out.trans (if_pos x2))
          have hPx := hP.out
          rw [x2] at c0 b1
          clear hnx hnx1 hC hP hsk x1 x2 hr0 b1
          go_wp2_with (go_at_call 28; refine hPx.mono ?_; rintro e w2 ⟨rfl, d2, k2⟩)
          go_roundw
          case rel => exact ⟨k + 1, by omega, by go_num, Lib.hid (by rw [hnx2.out]; exact k2.mono (from_grow ek.out)), Lib.hid (from_after ek.out d2)⟩
          case measure => simp [intOf]; omega
        · have hnx2 := Lib.hid (hnx1.out.trans (if_neg x2))
          have b2 := beq_ff x2
          clear hnx hnx1 hC hP hsk x1 x2 hr0
          go_wp2
          go_roundw
          case rel => exact ⟨k + 1, by omega, by go_num, by rw [hnx2.out]; exact hd, ek⟩
          case measure => simp [intOf]; omega
    · obtain rfl : k = l.length := by omega
      rw [List.take_length] at hd
      go_wp2
      go_ret2
      exact Ret.mk ⟨p, s, rfl, ek.out, hd.out⟩
end Go.Proofs.YtkdmljijgfejpaaDoor


