/- The log: the head that a block has. -/
import Derived.Test.YtkdmljijgfejpaaDoorWlA
import Derived.Laws.ResultCell
namespace Go.Proofs.YtkdmljijgfejpaaDoor
set_option linter.unusedVariables false
set_option linter.unusedSimpArgs false
open Go.RowKit Dk Wl Fr

theorem rdB_len {d : D} (h : d.Ok) {i : Nat} (hi : i < d.n) : (rdB (i : Int) d).length = 32 := by
  unfold rdB
  rw [if_pos (by unfold has; rw [Bool.and_eq_true, decide_eq_true_iff, decide_eq_true_iff]; omega)]
  exact rd_length h.len h.at_ hi _ (Nat.le_refl _)
def hlist (h : H) : List Value := [.int .i64 (h.gen : Int), .int .i64 (h.area : Int), .int .i64 (h.used : Int)]
def harr (h : H) : Array Value := #[.int .i64 (h.gen : Int), .int .i64 (h.area : Int), .int .i64 (h.used : Int)]
theorem info_head : (Tryd.prog.info? 97).map (·.size) = some 3 := by kernel_rfl
theorem yieldsIf_load_head {ops : Array Oper} {S : World → Prop} {op : Oper} {a : Act} (hw : Region.wanted op (yielded ops a.tmps) = true) (x : Operand) (ho : op.op = .load 97 x) (b i : Nat) (hx : a.eval x = .pointer (some ⟨b, i, none⟩)) (h : H)
    (hS : ∀ w, S w → w.rangeAt b i (hlist h)) : YieldsIf Tryd.prog ops S op (hagg h) a :=
  yieldsIf_load_mid hw 97 x ho b i hx (hlist h) _ hS Tryd.underlying97 rfl info_head
theorem bor (a b k : Nat) (hb : b < 2 ^ k) (h : a * 2 ^ k + b < 9223372036854775808) : bits .or .i64 ((a * 2 ^ k : Nat) : Int) (b : Int) = ((a * 2 ^ k + b : Nat) : Int) := by
  rw [bits_or_nat _ _ (by omega) (by omega), or_hi _ _ _ hb]
theorem results_head {fn : Func} {p u : Tmp} (h : fn.results = #[.cell p 97, .tmp u]) (tmps : Array Value) (w : World) (g : Nat) (x : H) (hp : tmps.getD p undef = .pointer (some ⟨g, 0, none⟩)) (hg : w.heap[g]? = some (.cells (harr x) 97 (0, 0))) :
    (results fn tmps).run Tryd.prog w = .ok (.tuple #[hagg x, tmps.getD u undef]) w := by
  rw [results_cell_tmp h, hp]
  simp only [asAddr, Sem.run_pure, Result.andThen_ok, run_loadVar_row w g 97 97 (harr x) (0, 0) _ hg Tryd.underlying97 rfl info_head]
  rfl
theorem Chg.rowSet {p : Nat → Prop} {a w : World} (h : Chg p a w) {g : Nat} (hg : p g) (cs : Array Value) : Chg p a (w.setRow g cs) :=
  ⟨h.os, h.tape, h.output, by simpa [World.setRow] using h.size, fun k hk hp => (setRow_other w g k cs (fun e => hp (by rw [e]; exact hg))).trans (h.block k hk hp)⟩
theorem step_store_row {P : Program} {ops : Array Oper} {o : Oper} {a : Act} {w : World} {K : Act → World → Prop} {Q : Exit → Act → World → Prop} {E : Prop} (hgd : o.guard = none) (ty : TypeId) (x y : Operand) (ho : o.op = .store ty x y)
    (g : Nat) (cells : Array Value) (hx : a.eval x = .pointer (some ⟨g, 0, none⟩)) (hy : a.eval y = .agg cells)
    (t : TypeId) (old : Array Value) (hg : w.heap[g]? = some (.cells old t (0, 0))) (hi : (P.info? ty).map (·.size) = some cells.size)
    (hold : old.size = cells.size) (h1 : cells.all (·.oneCell') = true) (h : K (a.put o.dst undef) (w.setRow g cells)) : if Region.wanted o (yielded ops a.tmps) = true then Oper.wp P o a w K Q else E := by
  have hw : Region.wanted o (yielded ops a.tmps) = true := by simp [Region.wanted, hgd]
  rw [if_pos hw]
  exact wp_store_row ty x y ho g cells hx hy t old hg hi hold h1 h
theorem step_store_head {ops : Array Oper} {o : Oper} {a : Act} {w : World} {K : Act → World → Prop} {Q : Exit → Act → World → Prop} {E : Prop} (hgd : o.guard = none) (x y : Operand) (ho : o.op = .store 97 x y)
    (g : Nat) (h : H) (hx : a.eval x = .pointer (some ⟨g, 0, none⟩)) (hy : a.eval y = hagg h) (old : H) (hg : w.heap[g]? = some (.cells (harr old) 97 (0, 0))) (hK : K (a.put o.dst undef) (w.setRow g (harr h))) :
    if Region.wanted o (yielded ops a.tmps) = true then Oper.wp Tryd.prog o a w K Q else E :=
  step_store_row hgd 97 x y ho g (harr h) hx hy 97 (harr old) hg info_head rfl (by simp [harr, Value.oneCell']) hK
theorem par_yes {G i : Nat} (h : G % 2 = i) : (Int.tmod (G : Int) 2 == (i : Int)) = true := by rw [Int.tmod_eq_emod_of_nonneg (by omega), beq_iff_eq]; omega
theorem par_no {G i : Nat} (h : ¬ G % 2 = i) : (Int.tmod (G : Int) 2 == (i : Int)) = false := by rw [Int.tmod_eq_emod_of_nonneg (by omega), beq_eq_false_iff_ne]; omega
theorem dec_le (U M : Nat) : decide ((U : Int) ≤ (M : Int)) = decide (U ≤ M) := by rw [Bool.eq_iff_iff, decide_eq_true_iff, decide_eq_true_iff]; omega
theorem wrap_q1 {n : Nat} (h : n < 4294967296) : IntKind.i64.wrap ((n : Int) / 8192) = (n : Int) / 8192 := wrap_le (by omega) (by omega)
theorem wrap_q2 {n : Nat} (h : n < 4294967296) : IntKind.i64.wrap ((n / 16384 : Nat) : Int) = ((n / 16384 : Nat) : Int) := wrap_le (by omega) (by omega)
theorem wrap_n {n : Nat} (h : n < 4294967296) : IntKind.i64.wrap (n : Int) = (n : Int) := wrap_le (by omega) (by omega)
theorem cast_q (n : Nat) : (n : Int) / 16384 = ((n / 16384 : Nat) : Int) ∧ (n : Int) / 8192 % 2 = ((n / 8192 % 2 : Nat) : Int) ∧ (n : Int) % 8192 = ((n % 8192 : Nat) : Int) := by omega
set_option linter.unusedSimpArgs false in
set_option maxRecDepth 20000 in
set_option maxHeartbeats 4000000 in
theorem lread_any {w : World} {F : Nat → Prop} {q p : Nat} {h : H} {vu : Value} {d : D} (l : LogAt w q p h vu) (hD : Disk w F p d) (h4 : 4 ≤ d.n) (h512 : d.n ≤ 512) (hok : d.Ok) (i : Nat) (hi : i < 2) (hw : Halves w) :
    Calls Tryd.prog 50 #[.pointer (some ⟨q, 0, none⟩), .int .i64 (i : Int)] w fun e w' => e = .returned (.tuple #[hagg (hOf (rdB (i : Int) d)), .bool (isHead (32 * areaN d.n) i (rdB (i : Int) d))]) ∧ Ext w w' := by
  obtain ⟨c0, -⟩ := l.cells
  have hbl := rdB_len hok (show i < d.n by omega)
  have hrd := fun W (e : Ext w W) => read_any (hD.ext e) (i : Int)
  have hrdh := Lib.hid hrd
  have hlh := Lib.hid l
  have hDh := Lib.hid hD
  have hwh := Lib.hid hw
  have hblh := Lib.hid hbl
  clear l hD hw hrd hok
  generalize hB : rdB (i : Int) d = b at *
  have hfb := Lib.hid (hOf_fine b)
  clear hB
  have e0 := Lib.hid (Ext.refl w)
  have c0a := fun o => ((Ext.refl w).alloc o).cell c0
  have hfine := hOf_fine b
  go_enter Tryd.func50, Tryd.ntmps50
  go_upto_region 2 with (go_at_call 52; refine (hrdh.out _ (e0.out.alloc _)).mono ?_; rintro e w1 ⟨v, rfl, hb, e1⟩)
  have e01 := Lib.hid ((e0.out.alloc (.cells #[.int .i64 0, .int .i64 0, .int .i64 0] 97)).trans e1)
  have hr4 := Lib.hid (show w1.heap[w.heap.size]? = some (.cells #[.int .i64 0, .int .i64 0, .int .i64 0] 97 (0, 0)) from e1.heap (heap_alloc_new w _))
  obtain ⟨a, cp, rfl, -⟩ := id hb
  have hcp := hb.cp.2.1
  obtain ⟨g, o, rfl⟩ := hb.ad (by omega)
  have d4 := hb.gt 4 (by omega)
  have d5 := hb.gt 5 (by omega)
  have d6 := hb.gt 6 (by omega)
  have d7 := hb.gt 7 (by omega)
  have hbh := Lib.hid hb
  have hn := Lib.hid (show nOf b = (b.getD 4 0).toNat * 16777216 + (b.getD 5 0).toNat * 65536 + (b.getD 6 0).toNat * 256 + (b.getD 7 0).toNat from rfl)
  have hnl := Lib.hid (nOf_lt b)
  have hof := Lib.hid (show hOf b = ⟨nOf b / 16384, nOf b / 8192 % 2, nOf b % 8192⟩ from rfl)
  clear hb c0a e1
  rw [hblh.out] at hcp ⊢
  generalize hx4 : b.getD 4 0 = x4 at *
  generalize hx5 : b.getD 5 0 = x5 at *
  generalize hx6 : b.getD 6 0 = x6 at *
  generalize hx7 : b.getD 7 0 = x7 at *
  clear hx4 hx5 hx6 hx7 hbl
  have kb : ∀ c : UInt8, IntKind.i64.wrap (c.toNat : Int) = (c.toNat : Int) := fun c => wrap_sm (by have := c.toNat_lt; omega)
  have kc := wrap64_byte
  have l4 := x4.toNat_lt
  have l5 := x5.toNat_lt
  have l6 := x6.toNat_lt
  have l7 := x7.toNat_lt
  have s4 := wrap_le (z := (x4.toNat : Int) * 16777216) (by omega) (by omega)
  have s5 := wrap_le (z := (x5.toNat : Int) * 65536) (by omega) (by omega)
  have s6 := wrap_le (z := (x6.toNat : Int) * 256) (by omega) (by omega)
  obtain ⟨A1, hA1⟩ : ∃ n, n = x4.toNat * 16777216 + x5.toNat * 65536 := ⟨_, rfl⟩
  obtain ⟨A2, hA2⟩ : ∃ n, n = x4.toNat * 16777216 + x5.toNat * 65536 + x6.toNat * 256 := ⟨_, rfl⟩
  have o1 : bits .or .i64 ((x4.toNat : Int) * 16777216) ((x5.toNat : Int) * 65536) = (A1 : Int) := by
    have := bor x4.toNat (x5.toNat * 65536) 24 (by omega) (by omega)
    rw [show (x4.toNat : Int) * 16777216 = ((x4.toNat * 2 ^ 24 : Nat) : Int) by omega, show (x5.toNat : Int) * 65536 = ((x5.toNat * 65536 : Nat) : Int) by omega, this, hA1]
  have o2 : bits .or .i64 (A1 : Int) ((x6.toNat : Int) * 256) = (A2 : Int) := by
    have := bor (x4.toNat * 256 + x5.toNat) (x6.toNat * 256) 16 (by omega) (by omega)
    rw [show (A1 : Int) = (((x4.toNat * 256 + x5.toNat) * 2 ^ 16 : Nat) : Int) by omega, show (x6.toNat : Int) * 256 = ((x6.toNat * 256 : Nat) : Int) by omega, this, hA2]
    omega
  have o3 : bits .or .i64 (A2 : Int) (x7.toNat : Int) = ((nOf b : Nat) : Int) := by
    have := bor (x4.toNat * 65536 + x5.toNat * 256 + x6.toNat) x7.toNat 8 (by omega) (by omega)
    rw [show (A2 : Int) = (((x4.toNat * 65536 + x5.toNat * 256 + x6.toNat) * 2 ^ 8 : Nat) : Int) by omega, this, hn.out]
    omega
  have hnw := wrap_n hnl.out
  obtain ⟨hq1, hq2, hq3⟩ := cast_q (nOf b)
  have hq4 := wrap_q1 hnl.out
  have hq5 := wrap_q2 hnl.out
  generalize nOf b / 16384 = G at *
  generalize nOf b / 8192 % 2 = Ar at *
  generalize nOf b % 8192 = Us at *
  generalize nOf b = N at *
  clear hA1 hA2 l4 l5 l6 l7
  go_quiet (fail)
  clear d4 d5 d6 d7 s4 s5 s6 o1 o2 o3 kb kc
  have e01n := Lib.hid (e01.out.trans (Ext.drewM w1 nq))
  have hr4n := Lib.hid ((Ext.drewM w1 nq).heap hr4.out)
  have hbn := Lib.hid (hbh.out.ext (Ext.drewM w1 nq))
  clear hr4 hbh e01
  generalize w1.drewN nq = w2 at *
  go_upto_region 4 with fail
  obtain ⟨w3, hw3⟩ : ∃ W, W = w2.alloc (.cells #[.int .i64 (G : Int), .int .i64 (Ar : Int), .int .i64 (Us : Int)] 97) := ⟨_, rfl⟩
  have e23 : Ext w2 w3 := by rw [hw3]; exact (Ext.refl w2).alloc _
  have hb8 : w3.heap[w2.heap.size]? = some (.cells (harr ⟨G, Ar, Us⟩) 97 (0, 0)) := by rw [hw3]; exact heap_alloc_new w2 _
  rw [← hw3]
  have hWE := Lib.hid (e01n.out.trans e23)
  obtain ⟨B8, hB8⟩ : ∃ n, n = w2.heap.size := ⟨_, rfl⟩
  rw [← hB8] at hb8 ⊢
  have hne : B8 ≠ w.heap.size := by
    have := (Array.getElem?_eq_some_iff.1 hr4n.out).1
    omega
  have hS := Lib.hid (show ∀ W, Chg (fun k => k = w.heap.size) w3 W → (W.rangeAt B8 0 (hlist ⟨G, Ar, Us⟩) ∧ W.cell? ⟨B8, 0, none⟩ = some (.int .i64 (G : Int)) ∧ W.cell? ⟨B8, 2, none⟩ = some (.int .i64 (Us : Int))) from fun W c => by
    have h := (c.block B8 (Array.getElem?_eq_some_iff.1 hb8).1 hne).trans hb8
    refine ⟨fun j v hv => ?_, cell_at h 0 rfl, cell_at h 2 rfl⟩
    rw [Nat.zero_add]
    refine cell_at h j ?_
    rw [← hv]
    show (#[_, _, _] : Array Value)[j]? = [_, _, _][j]?
    rw [List.getElem?_toArray])
  have hZ := Lib.hid (show ∀ W, Ext w3 W → W.heap[w.heap.size]? = some (.cells (harr ⟨0, 0, 0⟩) 97 (0, 0)) from fun W e => e.heap (e23.heap hr4n.out))
  have hf0 : (⟨G, Ar, Us⟩ : H).Fine := by rw [← hof.out]; exact hfine
  have hw3h := Lib.hid (hwh.out.ext hWE.out)
  have hbk := Lib.hid (show ∀ W (e : Ext w3 W), _ from fun W e => hblock_any ⟨G, Ar, Us⟩ hf0 W (hw3h.out.ext e))
  have hb8t := Lib.hid (show Bytes w3 (.slice (some ⟨g, o, none⟩) 8 cp) (b.take 8) from ((hbn.out).ini 8 (by rw [hblh.out]; decide)).ext e23)
  have hrm := Lib.hid (show ∀ W (e : Ext w3 W), _ from fun W e => lroom_any (hlh.out.ext (hWE.out.trans e)) (hDh.out.ext (hWE.out.trans e)) h4 h512)
  have hg8 : (8 : Int) ≤ (cp : Int) := by omega
  have hisH := Lib.hid (show isHead (32 * areaN d.n) i b = (seq (hb ⟨G, Ar, Us⟩) (b.take 8) && (decide (G % 2 = i) && decide (Us ≤ 32 * areaN d.n))) from by
    unfold isHead
    rw [hof.out, Bool.eq_iff_iff]
    simp [seq])
  obtain ⟨M, hM⟩ : ∃ M, M = 32 * areaN d.n := ⟨_, rfl⟩
  rw [← hM] at hrm hisH
  have hMh := Lib.hid hM
  clear hM
  have hn := hfine
  clear hfine hn c0 hw3 e23 hb8 hB8 hr4n hbn hf0 hq1 hq2 hq3 hq4 hq5 hnw hwh hlh hDh hblh hne
  cases hE : seq (hb ⟨G, Ar, Us⟩) (b.take 8)
  · have hEq := Lib.hid (fun W v (e : Ext w3 W) (hv : Bytes W v (hb ⟨G, Ar, Us⟩)) => (by have := equal_any v _ _ _ W hv (hb8t.out.ext e); rw [hE] at this; exact this))
    have hres := Lib.hid (show isHead (32 * areaN d.n) i b = false from by rw [← hMh.out, hisH.out, hE, Bool.false_and])
    clear hisH hE hrm
    as_aux_lemma =>
      -- BEGIN NOEQ
      refine wp_region_held_drew (S := (fun W => W.rangeAt B8 0 (hlist ⟨G, Ar, Us⟩) ∧ W.cell? ⟨B8, 0, none⟩ = some (.int .i64 (G : Int)) ∧ W.cell? ⟨B8, 2, none⟩ = some (.int .i64 (Us : Int)))) (by kernel_rfl) ?_ (fun hHeld => ?_)
      · (refine hS.out _ ?_; (repeat (first | with_reducible exact Chg.refl _ _ | with_reducible assumption | (with_reducible refine Chg.rowSet ?_ ?hrow _; case hrow => exact rfl) | with_reducible refine Chg.drew ?_ | with_reducible refine Chg.alloc ?_ _ | refine Chg.ext ?_ (by assumption))))
      refine wpAnyH_take (i := 0) (oi := ⟨some 45, _, _, _, _, _⟩) (v := hagg ⟨G, Ar, Us⟩) rfl (by kernel_rfl) (by kernel_rfl) (by kernel_rfl) (fun _ _ _ h => h) (yieldsIf_load_head (by kernel_rfl) _ rfl B8 0 rfl ⟨G, Ar, Us⟩ (fun _ h => h.1)) (by assumption) ?_
      try simp only [Act.put, List.setIfInBounds_toArray, List.set_cons_zero, List.set_cons_succ]
      refine wpAnyH_take (i := 1) (oi := ⟨some 46, _, _, _, _, _⟩) (v := hagg ⟨G, Ar, Us⟩) rfl (by kernel_rfl) (by kernel_rfl) (by kernel_rfl) (fun _ _ _ h => h) (yieldsIf_load_head (by kernel_rfl) _ rfl B8 0 rfl ⟨G, Ar, Us⟩ (fun _ h => h.1)) (by assumption) ?_
      try simp only [Act.put, List.setIfInBounds_toArray, List.set_cons_zero, List.set_cons_succ]
      refine wpAnyH_take (i := 3) (oi := ⟨some 48, _, _, _, _, _⟩) (v := ?_) rfl (by kernel_rfl) (by kernel_rfl) (by kernel_rfl) (fun _ _ _ h => h) (Or.inl ⟨by kernel_rfl, ?_⟩) hHeld ?_
      rotate_left
      · (intro w hSw; (try dsimp only at hSw); go_simp; try with_reducible rfl)
      try simp only [Act.put, List.setIfInBounds_toArray, List.set_cons_zero, List.set_cons_succ]
      refine wpAnyH_take (i := 4) (oi := ⟨some 49, _, _, _, _, _⟩) (v := ?_) rfl (by kernel_rfl) (by kernel_rfl) (by kernel_rfl) (fun _ _ _ h => h) (Or.inl ⟨by kernel_rfl, ?_⟩) hHeld ?_
      rotate_left
      · (intro w hSw; (try dsimp only at hSw); go_simp; try with_reducible rfl)
      try simp only [Act.put, List.setIfInBounds_toArray, List.set_cons_zero, List.set_cons_succ]
      refine wpAnyH_ready (rs := [2]) (by kernel_rfl) (by simp) ?_
      refine AllReadyH.cons rfl (fun K hK => ?_) ?_
      · go_simp
        (go_at_call 65; refine (hbk.out _ (by (repeat (first | exact Ext.refl _ | with_reducible assumption | refine Ext.drew ?_ | refine Ext.alloc ?_ _ | refine Ext.trans ?_ (by assumption))))).mono ?_; rintro e w4 ⟨v4, rfl, o4, e4⟩)
        go_wp2_with fail
        clear hHeld
        refine hK.out _ _ ?_ (fun hHeld => ?_)
        · (refine hS.out _ ?_; (repeat (first | with_reducible exact Chg.refl _ _ | with_reducible assumption | (with_reducible refine Chg.rowSet ?_ ?hrow _; case hrow => exact rfl) | with_reducible refine Chg.drew ?_ | with_reducible refine Chg.alloc ?_ _ | refine Chg.ext ?_ (by assumption))))
        clear hK K
        try simp only [Act.put, List.setIfInBounds_toArray, List.set_cons_zero, List.set_cons_succ]
        refine wpAnyH_ready (rs := [5]) (by kernel_rfl) (by simp) ?_
        refine AllReadyH.cons rfl (fun K hK => ?_) ?_
        · go_simp
          (go_at_call 64; refine (hEq.out _ _ (by (repeat (first | exact Ext.refl _ | with_reducible assumption | refine Ext.drew ?_ | refine Ext.alloc ?_ _ | refine Ext.trans ?_ (by assumption)))) o4.bytes).mono ?_; rintro e w5 ⟨rfl, e5⟩)
          go_wp2_with fail
          clear hHeld
          refine hK.out _ _ ?_ (fun hHeld => ?_)
          · (refine hS.out _ ?_; (repeat (first | with_reducible exact Chg.refl _ _ | with_reducible assumption | (with_reducible refine Chg.rowSet ?_ ?hrow _; case hrow => exact rfl) | with_reducible refine Chg.drew ?_ | with_reducible refine Chg.alloc ?_ _ | refine Chg.ext ?_ (by assumption))))
          clear hK K
          try simp only [Act.put, List.setIfInBounds_toArray, List.set_cons_zero, List.set_cons_succ]
          refine wpAnyH_take (i := 6) (oi := ⟨some 51, _, _, _, _, _⟩) (v := ?_) rfl (by kernel_rfl) (by kernel_rfl) (by kernel_rfl) (fun _ _ _ h => h) (Or.inl ⟨by kernel_rfl, ?_⟩) hHeld ?_
          rotate_left
          · (intro w hSw; (try dsimp only at hSw); go_simp; try with_reducible rfl)
          try simp only [Act.put, List.setIfInBounds_toArray, List.set_cons_zero, List.set_cons_succ]
          refine wpAnyH_take (i := 7) (oi := ⟨some 52, _, _, _, _, _⟩) (v := undef) rfl (by kernel_rfl) (by kernel_rfl) (by kernel_rfl) (fun _ _ _ h => h) (Or.inr ⟨by kernel_rfl, rfl⟩) (by assumption) ?_
          try simp only [Act.put, List.setIfInBounds_toArray, List.set_cons_zero, List.set_cons_succ]
          refine wpAnyH_take (i := 8) (oi := ⟨some 53, _, _, _, _, _⟩) (v := undef) rfl (by kernel_rfl) (by kernel_rfl) (by kernel_rfl) (fun _ _ _ h => h) (Or.inr ⟨by kernel_rfl, rfl⟩) (by assumption) ?_
          try simp only [Act.put, List.setIfInBounds_toArray, List.set_cons_zero, List.set_cons_succ]
          refine wpAnyH_take (i := 9) (oi := ⟨some 54, _, _, _, _, _⟩) (v := undef) rfl (by kernel_rfl) (by kernel_rfl) (by kernel_rfl) (fun _ _ _ h => h) (Or.inr ⟨by kernel_rfl, rfl⟩) (by assumption) ?_
          try simp only [Act.put, List.setIfInBounds_toArray, List.set_cons_zero, List.set_cons_succ]
          refine wpAnyH_take (i := 10) (oi := ⟨some 55, _, _, _, _, _⟩) (v := undef) rfl (by kernel_rfl) (by kernel_rfl) (by kernel_rfl) (fun _ _ _ h => h) (Or.inr ⟨by kernel_rfl, rfl⟩) (by assumption) ?_
          try simp only [Act.put, List.setIfInBounds_toArray, List.set_cons_zero, List.set_cons_succ]
          refine wpAnyH_take (i := 11) (oi := ⟨some 56, _, _, _, _, _⟩) (v := undef) rfl (by kernel_rfl) (by kernel_rfl) (by kernel_rfl) (fun _ _ _ h => h) (Or.inr ⟨by kernel_rfl, rfl⟩) (by assumption) ?_
          try simp only [Act.put, List.setIfInBounds_toArray, List.set_cons_zero, List.set_cons_succ]
          refine wpAnyH_take (i := 12) (oi := ⟨some 57, _, _, _, _, _⟩) (v := ?_) rfl (by kernel_rfl) (by kernel_rfl) (by kernel_rfl) (fun _ _ _ h => h) (Or.inl ⟨by kernel_rfl, ?_⟩) hHeld ?_
          rotate_left
          · (intro w hSw; (try dsimp only at hSw); go_simp; try with_reducible rfl)
          try simp only [Act.put, List.setIfInBounds_toArray, List.set_cons_zero, List.set_cons_succ]
          refine wpAnyH_take (i := 13) (oi := ⟨some 58, _, _, _, _, _⟩) (v := ?_) rfl (by kernel_rfl) (by kernel_rfl) (by kernel_rfl) (fun _ _ _ h => h) (Or.inl ⟨by kernel_rfl, ?_⟩) hHeld ?_
          rotate_left
          · (intro w hSw; (try dsimp only at hSw); go_simp; try with_reducible rfl)
          try simp only [Act.put, List.setIfInBounds_toArray, List.set_cons_zero, List.set_cons_succ]
          refine wpAnyH_take (i := 14) (oi := ⟨some 59, _, _, _, _, _⟩) (v := undef) rfl (by kernel_rfl) (by kernel_rfl) (by kernel_rfl) (fun _ _ _ h => h) (Or.inr ⟨by kernel_rfl, rfl⟩) (by assumption) ?_
          try simp only [Act.put, List.setIfInBounds_toArray, List.set_cons_zero, List.set_cons_succ]
          refine wpAnyH_take (i := 15) (oi := ⟨some 60, _, _, _, _, _⟩) (v := undef) rfl (by kernel_rfl) (by kernel_rfl) (by kernel_rfl) (fun _ _ _ h => h) (Or.inr ⟨by kernel_rfl, rfl⟩) (by assumption) ?_
          try simp only [Act.put, List.setIfInBounds_toArray, List.set_cons_zero, List.set_cons_succ]
          refine wpAnyH_take (i := 16) (oi := ⟨some 61, _, _, _, _, _⟩) (v := undef) rfl (by kernel_rfl) (by kernel_rfl) (by kernel_rfl) (fun _ _ _ h => h) (Or.inr ⟨by kernel_rfl, rfl⟩) (by assumption) ?_
          try simp only [Act.put, List.setIfInBounds_toArray, List.set_cons_zero, List.set_cons_succ]
          refine wpAnyH_take (i := 17) (oi := ⟨some 62, _, _, _, _, _⟩) (v := undef) rfl (by kernel_rfl) (by kernel_rfl) (by kernel_rfl) (fun _ _ _ h => h) (Or.inr ⟨by kernel_rfl, rfl⟩) (by assumption) ?_
          try simp only [Act.put, List.setIfInBounds_toArray, List.set_cons_zero, List.set_cons_succ]
          refine wpAnyH_take (i := 18) (oi := ⟨some 63, _, _, _, _, _⟩) (v := undef) rfl (by kernel_rfl) (by kernel_rfl) (by kernel_rfl) (fun _ _ _ h => h) (Or.inr ⟨by kernel_rfl, rfl⟩) (by assumption) ?_
          try simp only [Act.put, List.setIfInBounds_toArray, List.set_cons_zero, List.set_cons_succ]
          refine wpAnyH_take (i := 19) (oi := ⟨some 64, _, _, _, _, _⟩) (v := ?_) rfl (by kernel_rfl) (by kernel_rfl) (by kernel_rfl) (fun _ _ _ h => h) (Or.inl ⟨by kernel_rfl, ?_⟩) hHeld ?_
          rotate_left
          · (intro w hSw; (try dsimp only at hSw); go_simp; try with_reducible rfl)
          try simp only [Act.put, List.setIfInBounds_toArray, List.set_cons_zero, List.set_cons_succ]
          refine wpAnyH_ready (rs := [20]) (by kernel_rfl) (by simp) ?_
          refine AllReadyH.cons rfl (fun K hK => ?_) ?_
          · refine step_store_head rfl (.tmp 4) (.tmp 45) rfl w.heap.size ⟨G, Ar, Us⟩ rfl rfl ⟨0, 0, 0⟩ (hZ.out _ (Ext.trans (Ext.trans (Ext.refl w3).drew e4) e5)) ?_
            clear hHeld
            refine hK.out _ _ ?_ (fun hHeld => ?_)
            · exact hS.out _ (Chg.rowSet (Chg.of_ext (p := fun k => k = w.heap.size) (Ext.trans (Ext.trans (Ext.refl w3).drew e4) e5)) (g := w.heap.size) rfl (harr ⟨G, Ar, Us⟩))
            clear hK K
            try simp only [Act.put, List.setIfInBounds_toArray, List.set_cons_zero, List.set_cons_succ]
            refine wpAnyH_take (i := 21) (oi := ⟨some 5, .assign (.tmp 64), _, _, _, none⟩) (v := ?_) rfl (by kernel_rfl) (by kernel_rfl) (by kernel_rfl) (fun _ _ _ h => h) (Or.inl ⟨by kernel_rfl, ?_⟩) hHeld ?_
            rotate_left
            · (intro w hSw; (try dsimp only at hSw); go_simp; try with_reducible rfl)
            try simp only [Act.put, List.setIfInBounds_toArray, List.set_cons_zero, List.set_cons_succ]
            refine wpAnyH_done (by kernel_rfl) ?_ _
            go_wp2
            (try simp only [Exit.inBlock, Exit.then])
            refine bodyPost_ret (results_head rfl _ _ w.heap.size ⟨G, Ar, Us⟩ rfl ?hh) rfl ⟨?_, ?_⟩
            case hh => exact setRow_heap _ _ (harr ⟨0, 0, 0⟩) _ _ _ (hZ.out _ (Ext.trans (Ext.trans (Ext.refl w3).drew e4) e5))
            · rw [hof.out, hres.out]; first | rfl | (rw [← hdec.out]; rfl)
            · exact Ext.rowSet (hWE.out.trans (Ext.trans (Ext.trans (Ext.refl w3).drew e4) e5)) (Nat.le_refl _) _
          exact AllReadyH.nil
        exact AllReadyH.nil
      exact AllReadyH.nil
      -- END NOEQ
  · have hEq := Lib.hid (fun W v (e : Ext w3 W) (hv : Bytes W v (hb ⟨G, Ar, Us⟩)) => (by have := equal_any v _ _ _ W hv (hb8t.out.ext e); rw [hE] at this; exact this))
    by_cases hgi : G % 2 = i
    · have q1 := par_yes hgi
      have hres := Lib.hid (show isHead (32 * areaN d.n) i b = decide (Us ≤ M) from by
        rw [← hMh.out, hisH.out, hE, decide_eq_true hgi, Bool.true_and, Bool.true_and])
      have hdec := Lib.hid (dec_le Us M)
      clear hisH hE hgi
      as_aux_lemma =>
        -- BEGIN BOTH
        refine wp_region_held_drew (S := (fun W => W.rangeAt B8 0 (hlist ⟨G, Ar, Us⟩) ∧ W.cell? ⟨B8, 0, none⟩ = some (.int .i64 (G : Int)) ∧ W.cell? ⟨B8, 2, none⟩ = some (.int .i64 (Us : Int)))) (by kernel_rfl) ?_ (fun hHeld => ?_)
        · (refine hS.out _ ?_; (repeat (first | with_reducible exact Chg.refl _ _ | with_reducible assumption | (with_reducible refine Chg.rowSet ?_ ?hrow _; case hrow => exact rfl) | with_reducible refine Chg.drew ?_ | with_reducible refine Chg.alloc ?_ _ | refine Chg.ext ?_ (by assumption))))
        refine wpAnyH_take (i := 0) (oi := ⟨some 45, _, _, _, _, _⟩) (v := hagg ⟨G, Ar, Us⟩) rfl (by kernel_rfl) (by kernel_rfl) (by kernel_rfl) (fun _ _ _ h => h) (yieldsIf_load_head (by kernel_rfl) _ rfl B8 0 rfl ⟨G, Ar, Us⟩ (fun _ h => h.1)) (by assumption) ?_
        try simp only [Act.put, List.setIfInBounds_toArray, List.set_cons_zero, List.set_cons_succ]
        refine wpAnyH_take (i := 1) (oi := ⟨some 46, _, _, _, _, _⟩) (v := hagg ⟨G, Ar, Us⟩) rfl (by kernel_rfl) (by kernel_rfl) (by kernel_rfl) (fun _ _ _ h => h) (yieldsIf_load_head (by kernel_rfl) _ rfl B8 0 rfl ⟨G, Ar, Us⟩ (fun _ h => h.1)) (by assumption) ?_
        try simp only [Act.put, List.setIfInBounds_toArray, List.set_cons_zero, List.set_cons_succ]
        refine wpAnyH_take (i := 3) (oi := ⟨some 48, _, _, _, _, _⟩) (v := ?_) rfl (by kernel_rfl) (by kernel_rfl) (by kernel_rfl) (fun _ _ _ h => h) (Or.inl ⟨by kernel_rfl, ?_⟩) hHeld ?_
        rotate_left
        · (intro w hSw; (try dsimp only at hSw); go_simp; try with_reducible rfl)
        try simp only [Act.put, List.setIfInBounds_toArray, List.set_cons_zero, List.set_cons_succ]
        refine wpAnyH_take (i := 4) (oi := ⟨some 49, _, _, _, _, _⟩) (v := ?_) rfl (by kernel_rfl) (by kernel_rfl) (by kernel_rfl) (fun _ _ _ h => h) (Or.inl ⟨by kernel_rfl, ?_⟩) hHeld ?_
        rotate_left
        · (intro w hSw; (try dsimp only at hSw); go_simp; try with_reducible rfl)
        try simp only [Act.put, List.setIfInBounds_toArray, List.set_cons_zero, List.set_cons_succ]
        refine wpAnyH_ready (rs := [2]) (by kernel_rfl) (by simp) ?_
        refine AllReadyH.cons rfl (fun K hK => ?_) ?_
        · go_simp
          (go_at_call 65; refine (hbk.out _ (by (repeat (first | exact Ext.refl _ | with_reducible assumption | refine Ext.drew ?_ | refine Ext.alloc ?_ _ | refine Ext.trans ?_ (by assumption))))).mono ?_; rintro e w4 ⟨v4, rfl, o4, e4⟩)
          go_wp2_with fail
          clear hHeld
          refine hK.out _ _ ?_ (fun hHeld => ?_)
          · (refine hS.out _ ?_; (repeat (first | with_reducible exact Chg.refl _ _ | with_reducible assumption | (with_reducible refine Chg.rowSet ?_ ?hrow _; case hrow => exact rfl) | with_reducible refine Chg.drew ?_ | with_reducible refine Chg.alloc ?_ _ | refine Chg.ext ?_ (by assumption))))
          clear hK K
          try simp only [Act.put, List.setIfInBounds_toArray, List.set_cons_zero, List.set_cons_succ]
          refine wpAnyH_ready (rs := [5]) (by kernel_rfl) (by simp) ?_
          refine AllReadyH.cons rfl (fun K hK => ?_) ?_
          · go_simp
            (go_at_call 64; refine (hEq.out _ _ (by (repeat (first | exact Ext.refl _ | with_reducible assumption | refine Ext.drew ?_ | refine Ext.alloc ?_ _ | refine Ext.trans ?_ (by assumption)))) o4.bytes).mono ?_; rintro e w5 ⟨rfl, e5⟩)
            go_wp2_with fail
            clear hHeld
            refine hK.out _ _ ?_ (fun hHeld => ?_)
            · (refine hS.out _ ?_; (repeat (first | with_reducible exact Chg.refl _ _ | with_reducible assumption | (with_reducible refine Chg.rowSet ?_ ?hrow _; case hrow => exact rfl) | with_reducible refine Chg.drew ?_ | with_reducible refine Chg.alloc ?_ _ | refine Chg.ext ?_ (by assumption))))
            clear hK K
            try simp only [Act.put, List.setIfInBounds_toArray, List.set_cons_zero, List.set_cons_succ]
            refine wpAnyH_take (i := 6) (oi := ⟨some 51, _, _, _, _, _⟩) (v := ?_) rfl (by kernel_rfl) (by kernel_rfl) (by kernel_rfl) (fun _ _ _ h => h) (Or.inl ⟨by kernel_rfl, ?_⟩) hHeld ?_
            rotate_left
            · (intro w hSw; (try dsimp only at hSw); go_simp; try with_reducible rfl)
            try simp only [Act.put, List.setIfInBounds_toArray, List.set_cons_zero, List.set_cons_succ]
            refine wpAnyH_take (i := 7) (oi := ⟨some 52, _, _, _, _, _⟩) (v := ?_) rfl (by kernel_rfl) (by kernel_rfl) (by kernel_rfl) (fun _ _ _ h => h) (Or.inl ⟨by kernel_rfl, ?_⟩) hHeld ?_
            rotate_left
            · (intro w hSw; (try dsimp only at hSw); go_simp; try with_reducible rfl)
            try simp only [Act.put, List.setIfInBounds_toArray, List.set_cons_zero, List.set_cons_succ]
            refine wpAnyH_take (i := 8) (oi := ⟨some 53, _, _, _, _, _⟩) (v := ?_) rfl (by kernel_rfl) (by kernel_rfl) (by kernel_rfl) (fun _ _ _ h => h) (Or.inl ⟨by kernel_rfl, ?_⟩) hHeld ?_
            rotate_left
            · (intro w hSw; (try dsimp only at hSw); go_simp; try with_reducible rfl)
            try simp only [Act.put, List.setIfInBounds_toArray, List.set_cons_zero, List.set_cons_succ]
            refine wpAnyH_take (i := 9) (oi := ⟨some 54, _, _, _, _, _⟩) (v := ?_) rfl (by kernel_rfl) (by kernel_rfl) (by kernel_rfl) (fun _ _ _ h => h) (Or.inl ⟨by kernel_rfl, ?_⟩) hHeld ?_
            rotate_left
            · (intro w hSw; (try dsimp only at hSw); go_simp; try with_reducible rfl)
            try simp only [Act.put, List.setIfInBounds_toArray, List.set_cons_zero, List.set_cons_succ]
            refine wpAnyH_take (i := 10) (oi := ⟨some 55, _, _, _, _, _⟩) (v := ?_) rfl (by kernel_rfl) (by kernel_rfl) (by kernel_rfl) (fun _ _ _ h => h) (Or.inl ⟨by kernel_rfl, ?_⟩) hHeld ?_
            rotate_left
            · (intro w hSw; (try dsimp only at hSw); go_simp; try with_reducible rfl)
            try simp only [Act.put, List.setIfInBounds_toArray, List.set_cons_zero, List.set_cons_succ]
            refine wpAnyH_take (i := 11) (oi := ⟨some 56, _, _, _, _, _⟩) (v := ?_) rfl (by kernel_rfl) (by kernel_rfl) (by kernel_rfl) (fun _ _ _ h => h) (Or.inl ⟨by kernel_rfl, ?_⟩) hHeld ?_
            rotate_left
            · (intro w hSw; (try dsimp only at hSw); go_simp; try with_reducible rfl)
            try simp only [Act.put, List.setIfInBounds_toArray, List.set_cons_zero, List.set_cons_succ]
            refine wpAnyH_take (i := 12) (oi := ⟨some 57, _, _, _, _, _⟩) (v := ?_) rfl (by kernel_rfl) (by kernel_rfl) (by kernel_rfl) (fun _ _ _ h => h) (Or.inl ⟨by kernel_rfl, ?_⟩) hHeld ?_
            rotate_left
            · (intro w hSw; (try dsimp only at hSw); go_simp; try with_reducible rfl)
            try simp only [Act.put, List.setIfInBounds_toArray, List.set_cons_zero, List.set_cons_succ]
            refine wpAnyH_take (i := 13) (oi := ⟨some 58, _, _, _, _, _⟩) (v := ?_) rfl (by kernel_rfl) (by kernel_rfl) (by kernel_rfl) (fun _ _ _ h => h) (Or.inl ⟨by kernel_rfl, ?_⟩) hHeld ?_
            rotate_left
            · (intro w hSw; (try dsimp only at hSw); go_simp; try with_reducible rfl)
            try simp only [Act.put, List.setIfInBounds_toArray, List.set_cons_zero, List.set_cons_succ]
            refine wpAnyH_take (i := 14) (oi := ⟨some 59, _, _, _, _, _⟩) (v := ?_) rfl (by kernel_rfl) (by kernel_rfl) (by kernel_rfl) (fun _ _ _ h => h) (Or.inl ⟨by kernel_rfl, ?_⟩) hHeld ?_
            rotate_left
            · (intro w hSw; (try dsimp only at hSw); go_simp; try with_reducible rfl)
            try simp only [Act.put, List.setIfInBounds_toArray, List.set_cons_zero, List.set_cons_succ]
            refine wpAnyH_take (i := 15) (oi := ⟨some 60, _, _, _, _, _⟩) (v := ?_) rfl (by kernel_rfl) (by kernel_rfl) (by kernel_rfl) (fun _ _ _ h => h) (Or.inl ⟨by kernel_rfl, ?_⟩) hHeld ?_
            rotate_left
            · (intro w hSw; (try dsimp only at hSw); go_simp; try with_reducible rfl)
            try simp only [Act.put, List.setIfInBounds_toArray, List.set_cons_zero, List.set_cons_succ]
            refine wpAnyH_take (i := 16) (oi := ⟨some 61, _, _, _, _, _⟩) (v := ?_) rfl (by kernel_rfl) (by kernel_rfl) (by kernel_rfl) (fun _ _ _ h => h) (Or.inl ⟨by kernel_rfl, ?_⟩) hHeld ?_
            rotate_left
            · (intro w hSw; (try dsimp only at hSw); go_simp; try with_reducible rfl)
            try simp only [Act.put, List.setIfInBounds_toArray, List.set_cons_zero, List.set_cons_succ]
            refine wpAnyH_ready (rs := [17]) (by kernel_rfl) (by simp) ?_
            refine AllReadyH.cons rfl (fun K hK => ?_) ?_
            · go_simp
              (go_at_call 59; refine (hrm.out _ (by (repeat (first | exact Ext.refl _ | with_reducible assumption | refine Ext.drew ?_ | refine Ext.alloc ?_ _ | refine Ext.trans ?_ (by assumption))))).mono ?_; rintro e w6 ⟨rfl, rfl⟩)
              go_wp2_with fail
              clear hHeld
              refine hK.out _ _ ?_ (fun hHeld => ?_)
              · (refine hS.out _ ?_; (repeat (first | with_reducible exact Chg.refl _ _ | with_reducible assumption | (with_reducible refine Chg.rowSet ?_ ?hrow _; case hrow => exact rfl) | with_reducible refine Chg.drew ?_ | with_reducible refine Chg.alloc ?_ _ | refine Chg.ext ?_ (by assumption))))
              clear hK K
              try simp only [Act.put, List.setIfInBounds_toArray, List.set_cons_zero, List.set_cons_succ]
              refine wpAnyH_take (i := 18) (oi := ⟨some 63, _, _, _, _, _⟩) (v := ?_) rfl (by kernel_rfl) (by kernel_rfl) (by kernel_rfl) (fun _ _ _ h => h) (Or.inl ⟨by kernel_rfl, ?_⟩) hHeld ?_
              rotate_left
              · (intro w hSw; (try dsimp only at hSw); go_simp; try with_reducible rfl)
              try simp only [Act.put, List.setIfInBounds_toArray, List.set_cons_zero, List.set_cons_succ]
              refine wpAnyH_take (i := 19) (oi := ⟨some 64, _, _, _, _, _⟩) (v := ?_) rfl (by kernel_rfl) (by kernel_rfl) (by kernel_rfl) (fun _ _ _ h => h) (Or.inl ⟨by kernel_rfl, ?_⟩) hHeld ?_
              rotate_left
              · (intro w hSw; (try dsimp only at hSw); go_simp; try with_reducible rfl)
              try simp only [Act.put, List.setIfInBounds_toArray, List.set_cons_zero, List.set_cons_succ]
              refine wpAnyH_ready (rs := [20]) (by kernel_rfl) (by simp) ?_
              refine AllReadyH.cons rfl (fun K hK => ?_) ?_
              · refine step_store_head rfl (.tmp 4) (.tmp 45) rfl w.heap.size ⟨G, Ar, Us⟩ rfl rfl ⟨0, 0, 0⟩ (hZ.out _ (Ext.trans (Ext.trans (Ext.refl w3).drew e4) e5)) ?_
                clear hHeld
                refine hK.out _ _ ?_ (fun hHeld => ?_)
                · exact hS.out _ (Chg.rowSet (Chg.of_ext (p := fun k => k = w.heap.size) (Ext.trans (Ext.trans (Ext.refl w3).drew e4) e5)) (g := w.heap.size) rfl (harr ⟨G, Ar, Us⟩))
                clear hK K
                try simp only [Act.put, List.setIfInBounds_toArray, List.set_cons_zero, List.set_cons_succ]
                refine wpAnyH_take (i := 21) (oi := ⟨some 5, .assign (.tmp 64), _, _, _, none⟩) (v := ?_) rfl (by kernel_rfl) (by kernel_rfl) (by kernel_rfl) (fun _ _ _ h => h) (Or.inl ⟨by kernel_rfl, ?_⟩) hHeld ?_
                rotate_left
                · (intro w hSw; (try dsimp only at hSw); go_simp; try with_reducible rfl)
                try simp only [Act.put, List.setIfInBounds_toArray, List.set_cons_zero, List.set_cons_succ]
                refine wpAnyH_done (by kernel_rfl) ?_ _
                go_wp2
                (try simp only [Exit.inBlock, Exit.then])
                refine bodyPost_ret (results_head rfl _ _ w.heap.size ⟨G, Ar, Us⟩ rfl ?hh) rfl ⟨?_, ?_⟩
                case hh => exact setRow_heap _ _ (harr ⟨0, 0, 0⟩) _ _ _ (hZ.out _ (Ext.trans (Ext.trans (Ext.refl w3).drew e4) e5))
                · rw [hof.out, hres.out]; first | rfl | (rw [← hdec.out]; rfl)
                · exact Ext.rowSet (hWE.out.trans (Ext.trans (Ext.trans (Ext.refl w3).drew e4) e5)) (Nat.le_refl _) _
              exact AllReadyH.nil
            exact AllReadyH.nil
          exact AllReadyH.nil
        exact AllReadyH.nil
        -- END BOTH
    · have q1 := par_no hgi
      have hres := Lib.hid (show isHead (32 * areaN d.n) i b = false from by rw [← hMh.out, hisH.out, hE, decide_eq_false hgi, Bool.false_and, Bool.true_and])
      clear hisH hE hgi hrm
      as_aux_lemma =>
        -- BEGIN NOGEN
        refine wp_region_held_drew (S := (fun W => W.rangeAt B8 0 (hlist ⟨G, Ar, Us⟩) ∧ W.cell? ⟨B8, 0, none⟩ = some (.int .i64 (G : Int)) ∧ W.cell? ⟨B8, 2, none⟩ = some (.int .i64 (Us : Int)))) (by kernel_rfl) ?_ (fun hHeld => ?_)
        · (refine hS.out _ ?_; (repeat (first | with_reducible exact Chg.refl _ _ | with_reducible assumption | (with_reducible refine Chg.rowSet ?_ ?hrow _; case hrow => exact rfl) | with_reducible refine Chg.drew ?_ | with_reducible refine Chg.alloc ?_ _ | refine Chg.ext ?_ (by assumption))))
        refine wpAnyH_take (i := 0) (oi := ⟨some 45, _, _, _, _, _⟩) (v := hagg ⟨G, Ar, Us⟩) rfl (by kernel_rfl) (by kernel_rfl) (by kernel_rfl) (fun _ _ _ h => h) (yieldsIf_load_head (by kernel_rfl) _ rfl B8 0 rfl ⟨G, Ar, Us⟩ (fun _ h => h.1)) (by assumption) ?_
        try simp only [Act.put, List.setIfInBounds_toArray, List.set_cons_zero, List.set_cons_succ]
        refine wpAnyH_take (i := 1) (oi := ⟨some 46, _, _, _, _, _⟩) (v := hagg ⟨G, Ar, Us⟩) rfl (by kernel_rfl) (by kernel_rfl) (by kernel_rfl) (fun _ _ _ h => h) (yieldsIf_load_head (by kernel_rfl) _ rfl B8 0 rfl ⟨G, Ar, Us⟩ (fun _ h => h.1)) (by assumption) ?_
        try simp only [Act.put, List.setIfInBounds_toArray, List.set_cons_zero, List.set_cons_succ]
        refine wpAnyH_take (i := 3) (oi := ⟨some 48, _, _, _, _, _⟩) (v := ?_) rfl (by kernel_rfl) (by kernel_rfl) (by kernel_rfl) (fun _ _ _ h => h) (Or.inl ⟨by kernel_rfl, ?_⟩) hHeld ?_
        rotate_left
        · (intro w hSw; (try dsimp only at hSw); go_simp; try with_reducible rfl)
        try simp only [Act.put, List.setIfInBounds_toArray, List.set_cons_zero, List.set_cons_succ]
        refine wpAnyH_take (i := 4) (oi := ⟨some 49, _, _, _, _, _⟩) (v := ?_) rfl (by kernel_rfl) (by kernel_rfl) (by kernel_rfl) (fun _ _ _ h => h) (Or.inl ⟨by kernel_rfl, ?_⟩) hHeld ?_
        rotate_left
        · (intro w hSw; (try dsimp only at hSw); go_simp; try with_reducible rfl)
        try simp only [Act.put, List.setIfInBounds_toArray, List.set_cons_zero, List.set_cons_succ]
        refine wpAnyH_ready (rs := [2]) (by kernel_rfl) (by simp) ?_
        refine AllReadyH.cons rfl (fun K hK => ?_) ?_
        · go_simp
          (go_at_call 65; refine (hbk.out _ (by (repeat (first | exact Ext.refl _ | with_reducible assumption | refine Ext.drew ?_ | refine Ext.alloc ?_ _ | refine Ext.trans ?_ (by assumption))))).mono ?_; rintro e w4 ⟨v4, rfl, o4, e4⟩)
          go_wp2_with fail
          clear hHeld
          refine hK.out _ _ ?_ (fun hHeld => ?_)
          · (refine hS.out _ ?_; (repeat (first | with_reducible exact Chg.refl _ _ | with_reducible assumption | (with_reducible refine Chg.rowSet ?_ ?hrow _; case hrow => exact rfl) | with_reducible refine Chg.drew ?_ | with_reducible refine Chg.alloc ?_ _ | refine Chg.ext ?_ (by assumption))))
          clear hK K
          try simp only [Act.put, List.setIfInBounds_toArray, List.set_cons_zero, List.set_cons_succ]
          refine wpAnyH_ready (rs := [5]) (by kernel_rfl) (by simp) ?_
          refine AllReadyH.cons rfl (fun K hK => ?_) ?_
          · go_simp
            (go_at_call 64; refine (hEq.out _ _ (by (repeat (first | exact Ext.refl _ | with_reducible assumption | refine Ext.drew ?_ | refine Ext.alloc ?_ _ | refine Ext.trans ?_ (by assumption)))) o4.bytes).mono ?_; rintro e w5 ⟨rfl, e5⟩)
            go_wp2_with fail
            clear hHeld
            refine hK.out _ _ ?_ (fun hHeld => ?_)
            · (refine hS.out _ ?_; (repeat (first | with_reducible exact Chg.refl _ _ | with_reducible assumption | (with_reducible refine Chg.rowSet ?_ ?hrow _; case hrow => exact rfl) | with_reducible refine Chg.drew ?_ | with_reducible refine Chg.alloc ?_ _ | refine Chg.ext ?_ (by assumption))))
            clear hK K
            try simp only [Act.put, List.setIfInBounds_toArray, List.set_cons_zero, List.set_cons_succ]
            refine wpAnyH_take (i := 6) (oi := ⟨some 51, _, _, _, _, _⟩) (v := ?_) rfl (by kernel_rfl) (by kernel_rfl) (by kernel_rfl) (fun _ _ _ h => h) (Or.inl ⟨by kernel_rfl, ?_⟩) hHeld ?_
            rotate_left
            · (intro w hSw; (try dsimp only at hSw); go_simp; try with_reducible rfl)
            try simp only [Act.put, List.setIfInBounds_toArray, List.set_cons_zero, List.set_cons_succ]
            refine wpAnyH_take (i := 7) (oi := ⟨some 52, _, _, _, _, _⟩) (v := ?_) rfl (by kernel_rfl) (by kernel_rfl) (by kernel_rfl) (fun _ _ _ h => h) (Or.inl ⟨by kernel_rfl, ?_⟩) hHeld ?_
            rotate_left
            · (intro w hSw; (try dsimp only at hSw); go_simp; try with_reducible rfl)
            try simp only [Act.put, List.setIfInBounds_toArray, List.set_cons_zero, List.set_cons_succ]
            refine wpAnyH_take (i := 8) (oi := ⟨some 53, _, _, _, _, _⟩) (v := ?_) rfl (by kernel_rfl) (by kernel_rfl) (by kernel_rfl) (fun _ _ _ h => h) (Or.inl ⟨by kernel_rfl, ?_⟩) hHeld ?_
            rotate_left
            · (intro w hSw; (try dsimp only at hSw); go_simp; try with_reducible rfl)
            try simp only [Act.put, List.setIfInBounds_toArray, List.set_cons_zero, List.set_cons_succ]
            refine wpAnyH_take (i := 9) (oi := ⟨some 54, _, _, _, _, _⟩) (v := ?_) rfl (by kernel_rfl) (by kernel_rfl) (by kernel_rfl) (fun _ _ _ h => h) (Or.inl ⟨by kernel_rfl, ?_⟩) hHeld ?_
            rotate_left
            · (intro w hSw; (try dsimp only at hSw); go_simp; try with_reducible rfl)
            try simp only [Act.put, List.setIfInBounds_toArray, List.set_cons_zero, List.set_cons_succ]
            refine wpAnyH_take (i := 10) (oi := ⟨some 55, _, _, _, _, _⟩) (v := ?_) rfl (by kernel_rfl) (by kernel_rfl) (by kernel_rfl) (fun _ _ _ h => h) (Or.inl ⟨by kernel_rfl, ?_⟩) hHeld ?_
            rotate_left
            · (intro w hSw; (try dsimp only at hSw); go_simp; try with_reducible rfl)
            try simp only [Act.put, List.setIfInBounds_toArray, List.set_cons_zero, List.set_cons_succ]
            refine wpAnyH_take (i := 11) (oi := ⟨some 56, _, _, _, _, _⟩) (v := ?_) rfl (by kernel_rfl) (by kernel_rfl) (by kernel_rfl) (fun _ _ _ h => h) (Or.inl ⟨by kernel_rfl, ?_⟩) hHeld ?_
            rotate_left
            · (intro w hSw; (try dsimp only at hSw); go_simp; try with_reducible rfl)
            try simp only [Act.put, List.setIfInBounds_toArray, List.set_cons_zero, List.set_cons_succ]
            refine wpAnyH_take (i := 12) (oi := ⟨some 57, _, _, _, _, _⟩) (v := ?_) rfl (by kernel_rfl) (by kernel_rfl) (by kernel_rfl) (fun _ _ _ h => h) (Or.inl ⟨by kernel_rfl, ?_⟩) hHeld ?_
            rotate_left
            · (intro w hSw; (try dsimp only at hSw); go_simp; try with_reducible rfl)
            try simp only [Act.put, List.setIfInBounds_toArray, List.set_cons_zero, List.set_cons_succ]
            refine wpAnyH_take (i := 13) (oi := ⟨some 58, _, _, _, _, _⟩) (v := ?_) rfl (by kernel_rfl) (by kernel_rfl) (by kernel_rfl) (fun _ _ _ h => h) (Or.inl ⟨by kernel_rfl, ?_⟩) hHeld ?_
            rotate_left
            · (intro w hSw; (try dsimp only at hSw); go_simp; try with_reducible rfl)
            try simp only [Act.put, List.setIfInBounds_toArray, List.set_cons_zero, List.set_cons_succ]
            refine wpAnyH_take (i := 14) (oi := ⟨some 59, _, _, _, _, _⟩) (v := undef) rfl (by kernel_rfl) (by kernel_rfl) (by kernel_rfl) (fun _ _ _ h => h) (Or.inr ⟨by kernel_rfl, rfl⟩) (by assumption) ?_
            try simp only [Act.put, List.setIfInBounds_toArray, List.set_cons_zero, List.set_cons_succ]
            refine wpAnyH_take (i := 15) (oi := ⟨some 60, _, _, _, _, _⟩) (v := undef) rfl (by kernel_rfl) (by kernel_rfl) (by kernel_rfl) (fun _ _ _ h => h) (Or.inr ⟨by kernel_rfl, rfl⟩) (by assumption) ?_
            try simp only [Act.put, List.setIfInBounds_toArray, List.set_cons_zero, List.set_cons_succ]
            refine wpAnyH_take (i := 16) (oi := ⟨some 61, _, _, _, _, _⟩) (v := undef) rfl (by kernel_rfl) (by kernel_rfl) (by kernel_rfl) (fun _ _ _ h => h) (Or.inr ⟨by kernel_rfl, rfl⟩) (by assumption) ?_
            try simp only [Act.put, List.setIfInBounds_toArray, List.set_cons_zero, List.set_cons_succ]
            refine wpAnyH_take (i := 17) (oi := ⟨some 62, _, _, _, _, _⟩) (v := undef) rfl (by kernel_rfl) (by kernel_rfl) (by kernel_rfl) (fun _ _ _ h => h) (Or.inr ⟨by kernel_rfl, rfl⟩) (by assumption) ?_
            try simp only [Act.put, List.setIfInBounds_toArray, List.set_cons_zero, List.set_cons_succ]
            refine wpAnyH_take (i := 18) (oi := ⟨some 63, _, _, _, _, _⟩) (v := undef) rfl (by kernel_rfl) (by kernel_rfl) (by kernel_rfl) (fun _ _ _ h => h) (Or.inr ⟨by kernel_rfl, rfl⟩) (by assumption) ?_
            try simp only [Act.put, List.setIfInBounds_toArray, List.set_cons_zero, List.set_cons_succ]
            refine wpAnyH_take (i := 19) (oi := ⟨some 64, _, _, _, _, _⟩) (v := ?_) rfl (by kernel_rfl) (by kernel_rfl) (by kernel_rfl) (fun _ _ _ h => h) (Or.inl ⟨by kernel_rfl, ?_⟩) hHeld ?_
            rotate_left
            · (intro w hSw; (try dsimp only at hSw); go_simp; try with_reducible rfl)
            try simp only [Act.put, List.setIfInBounds_toArray, List.set_cons_zero, List.set_cons_succ]
            refine wpAnyH_ready (rs := [20]) (by kernel_rfl) (by simp) ?_
            refine AllReadyH.cons rfl (fun K hK => ?_) ?_
            · refine step_store_head rfl (.tmp 4) (.tmp 45) rfl w.heap.size ⟨G, Ar, Us⟩ rfl rfl ⟨0, 0, 0⟩ (hZ.out _ (Ext.trans (Ext.trans (Ext.refl w3).drew e4) e5)) ?_
              clear hHeld
              refine hK.out _ _ ?_ (fun hHeld => ?_)
              · exact hS.out _ (Chg.rowSet (Chg.of_ext (p := fun k => k = w.heap.size) (Ext.trans (Ext.trans (Ext.refl w3).drew e4) e5)) (g := w.heap.size) rfl (harr ⟨G, Ar, Us⟩))
              clear hK K
              try simp only [Act.put, List.setIfInBounds_toArray, List.set_cons_zero, List.set_cons_succ]
              refine wpAnyH_take (i := 21) (oi := ⟨some 5, .assign (.tmp 64), _, _, _, none⟩) (v := ?_) rfl (by kernel_rfl) (by kernel_rfl) (by kernel_rfl) (fun _ _ _ h => h) (Or.inl ⟨by kernel_rfl, ?_⟩) hHeld ?_
              rotate_left
              · (intro w hSw; (try dsimp only at hSw); go_simp; try with_reducible rfl)
              try simp only [Act.put, List.setIfInBounds_toArray, List.set_cons_zero, List.set_cons_succ]
              refine wpAnyH_done (by kernel_rfl) ?_ _
              go_wp2
              (try simp only [Exit.inBlock, Exit.then])
              refine bodyPost_ret (results_head rfl _ _ w.heap.size ⟨G, Ar, Us⟩ rfl ?hh) rfl ⟨?_, ?_⟩
              case hh => exact setRow_heap _ _ (harr ⟨0, 0, 0⟩) _ _ _ (hZ.out _ (Ext.trans (Ext.trans (Ext.refl w3).drew e4) e5))
              · rw [hof.out, hres.out]; first | rfl | (rw [← hdec.out]; rfl)
              · exact Ext.rowSet (hWE.out.trans (Ext.trans (Ext.trans (Ext.refl w3).drew e4) e5)) (Nat.le_refl _) _
            exact AllReadyH.nil
          exact AllReadyH.nil
        exact AllReadyH.nil
        -- END NOGEN
end Go.Proofs.YtkdmljijgfejpaaDoor
