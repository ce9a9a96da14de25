/- The document's disk: Write. -/
import Derived.Test.YtehgdoceaeammaaRDisk4
namespace Go.Proofs.Ytehgdoceaeammaa
open Go.RowKit Dk

theorem info_stagedZ : (Try.prog.info? 68).map (fun i => (i.zero, i.size, i.bytes)) = some (some (.agg #[.int .i64 0, .slice none 0 0]), 2, 32) := by kernel_rfl
theorem wpList_append2 {ops : Array Oper} {rest : List Oper} {o : Oper} {a : Act} {w : World} {Q : Exit → Act → World → Prop} (hgd : o.guard = none) (s x : Operand)
    (ho : o.op = .call { callee := .builtin .append, args := #[s, x], argTypes := #[44, 44] })
    (F : Nat → Prop) (v : Value) (n : Nat) (xs : List Value) (hs : a.eval s = v) (hown : OwnF 68 2 w F v n xs) (ax : Option Addr) (m c : Nat) (news : List Value) (hx : a.eval x = .slice ax m c) (hnone : ax = none → m = 0 ∧ c = 0)
    (hl : news.length = m * 2) (hnews : ∀ ad, ax = some ad → ∀ j u, news[j]? = some u → w.cell? (ad.add j) = some u) (hone : ∀ u ∈ news, u.oneCell' = true) (hlen : n + m ≤ 1048576)
    (h : ∀ v' w', OwnF 68 2 w' (fun k => F k ∨ w.heap.size ≤ k) v' (n + m) (xs ++ news) → Chg F w w' → wpList Try.prog ops Q rest (a.put o.dst v') w') : wpList Try.prog ops Q (o :: rest) a w := by
  refine wpList_plain hgd fun K hK => ?_
  cases ax with
  | none =>
    obtain ⟨rfl, rfl⟩ := hnone rfl
    obtain rfl : news = [] := List.eq_nil_of_length_eq_zero (by omega)
    obtain ⟨i, hi, hz0, hz1, hz2⟩ := info_parts info_stagedZ
    have hr := run_append_owned_none (P := Try.prog) w 0 44 o.type 68 i 2 Try.underlying44 hi v n xs hown.1
    unfold Oper.wp execOp
    simp only [ho, resolve, invoke, builtin, Sem.run_bind, Sem.run_pure, Result.andThen_ok, List.map_toArray, List.map_cons, List.map_nil, hs, hx, hr]
    exact hK _ _ (h v w (by rw [List.append_nil]; exact hown.mono fun _ => Or.inl) (Chg.refl _ _))
  | some ad =>
    obtain ⟨v', w', hr, h1, h2⟩ := run_appendF (P := Try.prog) (T := 44) Try.underlying44 info_stagedZ rfl (by decide) o.type w F v n xs hown ad m c news hl (hnews ad rfl) hone (by unfold maxLen; omega) (by omega)
    unfold Oper.wp execOp
    simp only [ho, resolve, invoke, builtin, Sem.run_bind, Sem.run_pure, Result.andThen_ok, List.map_toArray, List.map_cons, List.map_nil, hs, hx, hr]
    exact hK _ _ (h v' w' h1 h2)
/-- the cells of staged blocks -/
def Cells2 (w : World) (G : Nat → Prop) (xs : List Value) (st : List (Nat × List UInt8)) : Prop :=
  xs.length = st.length * 2 ∧ (∀ u ∈ xs, u.oneCell' = true) ∧ ∀ (j : Nat) (x : Nat × List UInt8), st[j]? = some x → xs[j * 2]? = some (.int .i64 (x.1 : Int)) ∧ ∃ u, xs[j * 2 + 1]? = some u ∧ Bytes w u x.2 ∧ ∀ k, vblk u = some k → x.2 ≠ [] → G k
theorem Cells2.ext {w w' : World} {G : Nat → Prop} {xs : List Value} {st : List (Nat × List UInt8)} (h : Cells2 w G xs st) (e : Ext w w') : Cells2 w' G xs st :=
  ⟨h.1, h.2.1, fun j x hj => ⟨(h.2.2 j x hj).1, let ⟨u, k1, k2, k3⟩ := (h.2.2 j x hj).2; ⟨u, k1, k2.ext e, k3⟩⟩⟩
theorem Bytes.one {w : World} {u : Value} {l : List UInt8} (h : Bytes w u l) : u.oneCell' = true := by
  obtain ⟨a, c, rfl, _⟩ := h; rfl
theorem RSt.cells {w : World} {G : Nat → Prop} {v : Value} {st : List (Nat × List UInt8)} (h : RSt w G v st) : ∃ a cap xs, v = .slice a st.length cap ∧ (a = none → st.length = 0 ∧ cap = 0) ∧ Cells2 w G xs st ∧ ∀ ad, a = some ad → ∀ j u, xs[j]? = some u → w.cell? (ad.add j) = some u := by
  obtain ⟨a, cap, h1, h2, h3, h4, h5⟩ := h
  have hnn : a = none → st.length = 0 ∧ cap = 0 := fun e => by have := h4 e; omega
  by_cases h0 : st.length = 0
  · refine ⟨a, cap, [], h1, hnn, ⟨by simp [h0], fun u hu => by simp at hu, fun j x hj => ?_⟩, fun ad _ j u hu => by simp at hu⟩
    have := (List.getElem?_eq_some_iff.1 hj).1
    omega
  · obtain ⟨g, u0, rfl, -⟩ := h5 0 _ (List.getElem?_eq_getElem (by omega))
    have hcell : ∀ j, j < st.length * 2 → ∃ u, w.cell? ⟨g, j, none⟩ = some u ∧ u.oneCell' = true := fun j hj => by
      obtain ⟨g', u, e, k2, k3, k4, k5, k6⟩ := h5 (j / 2) _ (List.getElem?_eq_getElem (by omega))
      cases e
      by_cases hp : j % 2 = 0
      · have : j = j / 2 * 2 := by omega
        rw [this]
        exact ⟨_, k3, rfl⟩
      · have : j = j / 2 * 2 + 1 := by omega
        rw [this]
        exact ⟨_, k4, k5.one⟩
    refine ⟨_, cap, (List.range (st.length * 2)).map fun j => (w.cell? ⟨g, j, none⟩).getD undef, h1, hnn, ⟨by simp, fun u hu => ?_, fun j x hj => ?_⟩, fun ad e j u hu => ?_⟩
    · obtain ⟨j, hj, rfl⟩ := List.mem_map.1 hu
      obtain ⟨u, k1, k2⟩ := hcell j (by simpa using hj)
      rw [k1]; exact k2
    · obtain ⟨g', u, e, k2, k3, k4, k5, k6⟩ := h5 j x hj
      cases e
      have hjl := (List.getElem?_eq_some_iff.1 hj).1
      refine ⟨?_, u, ?_, k5, k6⟩
      · rw [List.getElem?_map, List.getElem?_range (by omega)]; simp [k3]
      · rw [List.getElem?_map, List.getElem?_range (by omega)]; simp [k4]
    · cases e
      rw [List.getElem?_map] at hu
      obtain ⟨j', hj', rfl⟩ := Option.map_eq_some_iff.1 hu
      have hjl : j < st.length * 2 := by
        have := (List.getElem?_eq_some_iff.1 hj').1
        simpa using this
      rw [List.getElem?_range hjl] at hj'
      obtain rfl := Option.some.inj hj'
      obtain ⟨u, k1, k2⟩ := hcell j hjl
      rw [Addr.add_lit, Nat.zero_add, k1]; rfl
theorem RSt.of_own {w : World} {F G : Nat → Prop} {v : Value} {xs : List Value} {st : List (Nat × List UInt8)} (h : OwnF 68 2 w F v st.length xs) (hF : ∀ k, F k → G k) (hc : Cells2 w G xs st) : RSt w G v st := by
  obtain ⟨⟨h1, h2⟩, h3⟩ := h
  rcases h2 with ⟨rfl, h0⟩ | ⟨g, cap, cur, rfl, hb, hh, hn, hm, hs, ht⟩
  · obtain rfl := List.eq_nil_of_length_eq_zero h0
    exact RSt.nil _ _
  · refine ⟨_, cap, rfl, hn, hm, fun e => by simp at e, fun j x hj => ?_⟩
    obtain ⟨k1, u, k2, k3, k4⟩ := hc.2.2 j x hj
    have hjl := (List.getElem?_eq_some_iff.1 hj).1
    have cell : ∀ (i : Nat) (y : Value), i < st.length * 2 → xs[i]? = some y → w.cell? ⟨g, i, none⟩ = some y := fun i y hi hy => by
      rw [← ht, List.getElem?_take, if_pos hi] at hy
      rw [cell_of_row w g i cur _ _ hh, ← Array.getElem?_toList]; exact hy
    exact ⟨g, u, rfl, hF g (h3 g rfl), cell _ _ (by omega) k1, cell _ _ (by omega) k2, k3, k4⟩
theorem Cells2.snoc {w : World} {G : Nat → Prop} {xs : List Value} {st : List (Nat × List UInt8)} (h : Cells2 w G xs st) (i : Nat) (u : Value) (b : List UInt8) (hb : Bytes w u b) (hu : ∀ k, vblk u = some k → b ≠ [] → G k) : Cells2 w G (xs ++ [.int .i64 (i : Int), u]) (st ++ [(i, b)]) := by
  refine ⟨by simp [h.1]; omega, fun y hy => ?_, fun j x hj => ?_⟩
  · rcases List.mem_append.1 hy with hy | hy
    · exact h.2.1 y hy
    · simp at hy
      rcases hy with rfl | rfl
      · rfl
      · exact hb.one
  · by_cases hl : j < st.length
    · rw [List.getElem?_append_left hl] at hj
      obtain ⟨k1, v, k2, k3, k4⟩ := h.2.2 j x hj
      have := h.1
      exact ⟨by rw [List.getElem?_append_left (by omega)]; exact k1, v, by rw [List.getElem?_append_left (by omega)]; exact k2, k3, k4⟩
    · have hjl : j = st.length := by
        have := (List.getElem?_eq_some_iff.1 hj).1
        simp at this; omega
      subst hjl
      rw [List.getElem?_append_right (by omega), Nat.sub_self] at hj
      simp at hj
      subst hj
      have := h.1
      refine ⟨?_, u, ?_, hb, hu⟩
      · rw [List.getElem?_append_right (by omega), show st.length * 2 - xs.length = 0 by omega]; rfl
      · rw [List.getElem?_append_right (by omega), show st.length * 2 + 1 - xs.length = 1 by omega]; rfl
theorem Cells2.mono {w : World} {G H : Nat → Prop} {xs : List Value} {st : List (Nat × List UInt8)} (h : Cells2 w G xs st) (hG : ∀ k, G k → H k) : Cells2 w H xs st :=
  ⟨h.1, h.2.1, fun j x hj => ⟨(h.2.2 j x hj).1, let ⟨u, k1, k2, k3⟩ := (h.2.2 j x hj).2; ⟨u, k1, k2, fun k h1 h2 => hG k (k3 k h1 h2)⟩⟩⟩
/-- the first k bytes, and 0s -/
def padk (b : List UInt8) (k : Nat) : List UInt8 := b.take k ++ List.replicate (32 - k) 0
theorem padk_zero (b : List UInt8) : ((padk b 0).map u8v).toArray = zrow 32 := rfl
theorem padk_full (b : List UInt8) : padk b b.length = pad b := by unfold padk pad; rw [List.take_length]
theorem padk_len {b : List UInt8} {k : Nat} (h : k ≤ b.length) (hb : b.length ≤ 32) : (padk b k).length = 32 := by unfold padk; simp; omega
theorem padk_step {b : List UInt8} {k : Nat} (h : k < b.length) (hb : b.length ≤ 32) : ((padk b k).map u8v).toArray.setIfInBounds k (.int .u8 ((b.getD k 0).toNat : Int)) = ((padk b (k + 1)).map u8v).toArray := by
  apply Array.ext_getElem?
  intro j
  have l1 : (b.take k).length = k := by rw [List.length_take]; omega
  have l2 : (b.take (k + 1)).length = k + 1 := by rw [List.length_take]; omega
  rw [Array.getElem?_setIfInBounds, List.getElem?_toArray, List.getElem?_toArray, List.getElem?_map, List.getElem?_map, List.size_toArray, List.length_map, padk_len (by omega) hb]
  unfold padk
  by_cases h1 : k = j
  · subst h1
    rw [if_pos rfl, if_pos (by omega), List.getElem?_append_left (by omega), List.getElem?_take, if_pos (by omega), List.getElem?_eq_getElem h, List.getD_eq_getElem?_getD, List.getElem?_eq_getElem h]; rfl
  · rw [if_neg h1]
    by_cases h2 : j < k
    · rw [List.getElem?_append_left (by omega), List.getElem?_append_left (by omega), List.getElem?_take, List.getElem?_take, if_pos h2, if_pos (by omega)]
    · rw [List.getElem?_append_right (by omega), List.getElem?_append_right (by omega), List.getElem?_replicate, List.getElem?_replicate, l1, l2]
      by_cases h3 : j < 32
      · rw [if_pos (by omega), if_pos (by omega)]
      · rw [if_neg (by omega), if_neg (by omega)]
theorem bytes_of_row {w : World} {g n : Nat} {b : List UInt8} {E : TypeId} {fr : Nat × Nat} (h : w.heap[g]? = some (.cells (b.map u8v).toArray E fr)) (hn : n = b.length) (hb : b.length ≤ maxLen) : Bytes w (.slice (some ⟨g, 0, none⟩) n n) b :=
  Bytes.row hn (by omega) (by omega) fun j hj => by
    rw [cell_of_row w g _ _ _ _ h, Nat.zero_add]
    simp [hj, u8v]
theorem cells_new2 (w : World) (x y : Value) (t : TypeId) : ∀ ad, some (⟨w.heap.size, 0, none⟩ : Addr) = some ad → ∀ j u, [x, y][j]? = some u → (w.alloc (.cells #[x, y] t)).cell? (ad.add j) = some u := by
  intro ad e j u hj
  cases e
  rw [Addr.add_lit, Nat.zero_add, cell_of_row _ _ _ _ _ _ (heap_alloc_new w _)]
  match j, hj with
  | 0, hj => simpa using hj
  | 1, hj => simpa using hj
theorem made2 (w : World) : OwnF 68 2 (w.alloc (.cells #[] 68)) (fun k => w.heap.size ≤ k) (.slice (some ⟨w.heap.size, 0, none⟩) 0 0) 0 [] :=
  ⟨World.ownsRow_made w #[] 0 (Nat.zero_le _) (by simp [maxLen]) rfl, fun k hk => by simp [Value.ownBlock] at hk; omega⟩
theorem wr_ok2 (i : Nat) (b : List UInt8) {d : D} (h : d.Ok) (hi : i < d.n) (hb : b.length ≤ 32) : ({ after d with st := d.st ++ [(i, pad b)] } : D).Ok := wr_ok i b (after_ok h) hi hb
attribute [local irreducible] pad padk zrow
set_option maxRecDepth 20000 in
set_option maxHeartbeats 2000000 in
theorem rwrite_any {w : World} {F : Nat → Prop} {q : Nat} {d : D} (h : RDisk w F q d) (hst : d.st.length ≤ 1048000) (i : Int) (u : Value) (b : List UInt8) (hb : ∀ w', Chg F w w' → Bytes w' u b) :
    Calls Try.prog 30 #[.pointer (some ⟨q, 0, none⟩), .int .i64 i, u] w fun e w' => e = .returned (.int .i64 (wrE i b d)) ∧ Chg F w w' ∧ RDisk w' (grow F w) q (wrB i b d) := by
  have hLe := rLen_any h
  have hD0 := Lib.hid (h.mono (G := grow F w) fun _ => Or.inl)
  obtain ⟨gk, vs, vp, h, ok⟩ := h
  have hmost := ok.most
  have hbh := Lib.hid hb
  obtain ⟨au, cu, rfl, hbu⟩ := hb w (Chg.refl _ _)
  have hbl := hbu.len
  clear hb hbu
  by_cases h0 : i < 0
  · have hr : RowKit.Hid (wrE i b d = 4 ∧ wrB i b d = d) := Lib.hid (by
      have : has d i = false := by unfold has; rw [decide_eq_false (by omega)]; rfl
      unfold wrE wrB; rw [this]; exact ⟨rfl, rfl⟩)
    have d0 : decide (i < 0) = true := by rw [decide_eq_true_iff]; exact h0
    go_enter Try.func30, Try.ntmps30
    go_wp2
    go_ret
    exact ⟨by rw [hr.out.1]; rfl, Chg.refl _ _, by rw [hr.out.2]; exact hD0.out⟩
  have d0 : decide (i < 0) = false := by rw [decide_eq_false_iff_not]; exact h0
  by_cases h1 : (d.n : Int) ≤ i
  · have hr : RowKit.Hid (wrE i b d = 4 ∧ wrB i b d = d) := Lib.hid (by
      have : has d i = false := by unfold has; rw [decide_eq_false (p := i < (d.n : Int)) (by omega)]; simp
      unfold wrE wrB; rw [this]; exact ⟨rfl, rfl⟩)
    have d1 : decide ((d.n : Int) ≤ i) = true := by rw [decide_eq_true_iff]; exact h1
    go_enter Try.func30, Try.ntmps30
    go_wp2_with (go_at_call 26; refine hLe.mono ?_; rintro e w' ⟨rfl, rfl⟩)
    go_ret
    exact ⟨by rw [hr.out.1]; rfl, Chg.refl _ _, by rw [hr.out.2]; exact hD0.out⟩
  have d1 : decide ((d.n : Int) ≤ i) = false := by rw [decide_eq_false_iff_not]; exact h1
  obtain ⟨i, rfl⟩ : ∃ k : Nat, i = k := ⟨i.toNat, by omega⟩
  have hi : i < d.n := by omega
  have hh : has d (i : Int) = true := by unfold has; simp; exact hi
  by_cases h32 : 32 < b.length
  · have hr : RowKit.Hid (wrE (i : Int) b d = 2 ∧ wrB (i : Int) b d = d) := Lib.hid (by
      unfold wrE wrB; rw [hh]; simp [h32])
    have d2 : decide ((32 : Int) < (b.length : Int)) = true := by rw [decide_eq_true_iff]; omega
    go_enter Try.func30, Try.ntmps30
    go_wp2_with (go_at_call 26; refine hLe.mono ?_; rintro e w' ⟨rfl, rfl⟩)
    go_ret
    exact ⟨by rw [hr.out.1]; rfl, Chg.refl _ _, by rw [hr.out.2]; exact hD0.out⟩
  have d2 : decide ((32 : Int) < (b.length : Int)) = false := by rw [decide_eq_false_iff_not]; omega
  have hb32 : b.length ≤ 32 := by omega
  have hfl := rfails_any h
  have hFp := h.fq
  cases hf : fl d
  · have hr : RowKit.Hid (wrE (i : Int) b d = 0 ∧ wrB (i : Int) b d = { after d with st := d.st ++ [(i, pad b)] }) := Lib.hid (by
      unfold wrE wrB; rw [hh, hf]; simp [h32])
    rw [hf] at hfl
    have hokW := Lib.hid (wr_ok2 i b ok hi hb32)
    have hK := after_kept d
    have hE := after_st d
    have hmk : ∀ W, (Instr.makeSlice 22 (.int .i64 32) (.int .i64 32)).run Try.prog W = .ok (.slice (some ⟨W.heap.size, 0, none⟩) 32 32) (W.alloc (.cells ((padk b 0).map u8v).toArray 5)) := fun W => by rw [padk_zero]; exact rmake 32 (by decide) W
    go_enter Try.func30, Try.ntmps30
    go_upto_region 8 with (first
      | (go_at_call 26; refine hLe.mono ?_; rintro e w' ⟨rfl, rfl⟩)
      | (go_at_call 39; refine hfl.mono ?_; rintro e w1 ⟨rfl, hc1, vp', hD1⟩))
    generalize after d = A at *
    have hE2 := Lib.hid hE
    rw [← hE] at hst
    have hqb := (Array.getElem?_eq_some_iff.1 hD1.hd).1
    obtain ⟨gx, hgx⟩ : ∃ g, g = w1.heap.size := ⟨_, rfl⟩
    have hrow0 := heap_alloc_new w1 (.cells ((padk b 0).map u8v).toArray 5)
    rw [← hgx] at hrow0
    have ec0 := (Ext.refl w1).alloc (.cells ((padk b 0).map u8v).toArray 5)
    have hCw := Lib.hid (hc1.mono fun k hk => by rw [hk]; exact hFp : Chg F w w1)
    have hDh := Lib.hid hD1
    clear hfl hLe hc1 hD1 hE hK hD0 h ok hh h0 h1 d0 d1 d2 h32
    go_wp2
    rw [← hgx]
    have hgxh := Lib.hid hgx
    clear hgx hmk
    go_loopw [9] (fun j wr => ∃ k : Nat, k ≤ b.length ∧ j = .int .i64 (k : Int) ∧ wr.heap[gx]? = some (.cells ((padk b k).map u8v).toArray 5 (0, 0)) ∧ Ext w1 wr) (fun j _ => b.length - (intOf j).toNat)
    case atStart => exact ⟨0, Nat.zero_le _, rfl, hrow0, ec0⟩
    case round =>
      clear hrow0 ec0
      obtain ⟨k, hk, rfl, hrow, ek⟩ := hrel
      by_cases hlt : k < b.length
      · have hki : (k : Int) < (b.length : Int) := by omega
        have hk32 : (k : Int) < 32 := by omega
        have hfl := Lib.hid (padk_len (k := k) hk hb32)
        have c1 : wr.cell? ⟨gx, k, none⟩ = some (u8v ((padk b k).getD k 0)) := by
          rw [cell_of_row _ _ _ _ _ _ hrow, List.getElem?_toArray, List.getElem?_map, List.getD_eq_getElem?_getD, List.getElem?_eq_getElem (by rw [hfl.out]; omega)]; rfl
        have f1 : wr.frozen? ⟨gx, k, none⟩ = false := by simp [World.frozen?, hrow]
        have hBu := hbh.out _ (hCw.out.ext ek)
        obtain ⟨a', c', e, hat⟩ := hBu
        simp only [Value.slice.injEq] at e
        obtain ⟨rfl, -, rfl⟩ := e
        obtain ⟨gu, ou, rfl, cb⟩ := hat.get k hlt
        have hrow2 := setCell_row wr gx k _ _ _ (.int .u8 ((b.getD k 0).toNat : Int)) hrow
        rw [padk_step hlt hb32] at hrow2
        have hrowh := Lib.hid hrow2
        generalize b.getD k 0 = y at *
        clear hrow hrow2 hat
        go_wp2
        go_roundw
        case rel => exact ⟨k + 1, by omega, by go_num, hrowh.out, ek.setCell (by show w1.heap.size ≤ gx; rw [hgxh.out]; exact Nat.le_refl _) _⟩
        case measure => simp [intOf]; omega
      · obtain rfl : k = b.length := by omega
        rw [padk_full] at hrow
        have hpl := pad_length hb32
        have hBx := bytes_of_row (n := 32) hrow hpl.symm (by rw [hpl]; decide)
        have hR := hDh.out.ext ek
        obtain ⟨a, cap, xs, rfl, hnn, hc2, hcells⟩ := hR.st.cells
        obtain ⟨c0, c1, -, -, -, ff⟩ := rhd_cells hR.hd
        have ff1 := ff 1
        have eA := (Ext.refl wr).alloc (.cells #[] 68)
        have cA := eA.cell c1
        have hcA : ∀ ad, a = some ad → ∀ j u, xs[j]? = some u → (wr.alloc (.cells #[] 68)).cell? (ad.add j) = some u := fun ad e j u h => eA.cell (hcells ad e j u h)
        have hcAh := Lib.hid hcA
        have hRh := Lib.hid hR
        have hc2h := Lib.hid hc2
        have hnnh := Lib.hid hnn
        clear hrow hR c0 ff hcells hcA hc2 hnn hpl hlt hk
        have hqf : ∀ W, Ext wr W → W.frozen? ⟨q, 1, none⟩ = false := fun W e => by
          have := e.heap hRh.out.hd
          simp [World.frozen?, this]
        have hqfh := Lib.hid hqf
        clear hqf
        have hon := made2 wr
        go_wp2_with (first
          | (at_builtin; refine wpList_append2 rfl _ _ rfl (fun k => wr.heap.size ≤ k) _ 0 [] rfl hon a A.st.length cap xs rfl hnnh.out hc2h.out.1 hcAh.out hc2h.out.2.1 (by omega) ?_; intro v2 W2 g1 g2; simp only [Nat.zero_add, List.nil_append] at g1; obtain ⟨a2, cp2, rfl, -⟩ := g1.shape (by decide); have e2 : Ext wr W2 := eA.chg g2 fun _ h => h)
          | (at_builtin; refine wpList_append2 rfl _ _ rfl _ _ A.st.length xs rfl (g1.ext ((Ext.refl W2).alloc _)) (some ⟨W2.heap.size, 0, none⟩) 1 1 [.int .i64 (i : Int), .slice (some ⟨gx, 0, none⟩) 32 32] rfl (fun h => by cases h) rfl (cells_new2 _ _ _ _) (by intro u hu; simp at hu; rcases hu with rfl | rfl <;> rfl) (by omega) ?_; intro v3 W3 g3 g4; have e3 : Ext wr W3 := (e2.alloc _).chg g4 (fun k hk => hk.elim id (fun h => Nat.le_trans (by exact eA.size) h)); obtain ⟨a3, cp3, rfl, -⟩ := g3.shape (by decide); have c3 := e3.cell c1; have f3 := hqfh.out _ e3))
        go_ret
        have c := (Chg.refl (fun k => k = q) W3).setq 1 (.slice a3 (A.st.length + 1) cp3)
        have z1 : w.heap.size ≤ w1.heap.size := hCw.out.size
        have z2 := ek.size
        have z3 := e2.size
        have z4 : wr.heap.size ≤ (wr.alloc (.cells #[] 68)).heap.size := eA.size
        have z5 : W2.heap.size ≤ (W2.alloc (.cells #[.int .i64 (i : Int), .slice (some ⟨gx, 0, none⟩) 32 32] 68)).heap.size := ((Ext.refl W2).alloc _).size
        have z6 := hgxh.out
        obtain ⟨cur0, m1, -⟩ := hDh.out.kept
        have z7 := (Array.getElem?_eq_some_iff.1 m1).1
        have R3 := hRh.out.ext e3
        obtain ⟨cur, k1, k2⟩ := R3.kept
        have hs : RSt W3 (oth (grow F w) q gk) (.slice a3 (A.st.length + 1) cp3) (A.st ++ [(i, pad b)]) := RSt.of_own (st := A.st ++ [(i, pad b)]) (by rw [List.length_append]; exact g3) (fun k hk => by
          have : wr.heap.size ≤ k := by rcases hk with (hk | hk) | hk <;> omega
          exact ⟨.inr (by omega), by omega, by omega⟩) (((hc2h.out.ext e3).mono (oth_mono fun _ => Or.inl)).snoc i _ _ (hBx.ext e3) (fun k hk _ => by
            simp only [vblk, Option.some.injEq] at hk
            subst hk
            exact ⟨.inr (by omega), by omega, by omega⟩))
        refine ⟨by rw [hr.out.1]; rfl, ((hCw.out.ext ek).ext e3).trans (c.mono fun k hk => by rw [hk]; exact hFp), gk, .slice a3 (A.st.length + 1) cp3, vp', ?_, by rw [hr.out.2]; exact hokW.out⟩
        rw [hr.out.2]
        exact ⟨rhd_set1 _ (e3.heap hRh.out.hd), .inl hFp, ⟨cur, by rw [c.block gk (Array.getElem?_eq_some_iff.1 k1).1 (fun e => R3.ne e.symm)]; exact k1, k2⟩, .inl R3.fk, by rw [← hE2.out]; exact hs.chg c fun k _ hk e => hk.2.1 e, (R3.plan.chg c fun k hk e => hk.2.1 e).mono (oth_mono fun _ => Or.inl), R3.lf⟩
  · have hr : RowKit.Hid (wrE (i : Int) b d = 21 ∧ wrB (i : Int) b d = after d) := Lib.hid (by
      unfold wrE wrB; rw [hh, hf]; simp [h32])
    have hok2 := Lib.hid (after_ok ok)
    rw [hf] at hfl
    clear hD0 hh h32
    go_enter Try.func30, Try.ntmps30
    go_wp2_with (first
      | (go_at_call 26; refine hLe.mono ?_; rintro e w' ⟨rfl, rfl⟩)
      | (go_at_call 39; refine hfl.mono ?_; rintro e w1 ⟨rfl, hc1, vp', hD1⟩))
    go_ret
    exact ⟨by rw [hr.out.1]; rfl, hc1.mono fun k hk => by rw [hk]; exact hFp, gk, _, _, by rw [hr.out.2]; exact hD1.mono fun _ => Or.inl, by rw [hr.out.2]; exact hok2.out⟩
end Go.Proofs.Ytehgdoceaeammaa
