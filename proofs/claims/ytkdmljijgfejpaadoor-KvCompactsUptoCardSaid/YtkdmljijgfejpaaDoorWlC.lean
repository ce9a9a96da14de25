/- The log: Open. -/
import Derived.Test.YtkdmljijgfejpaaDoorWlB
import Derived.Deep.RegionHeld3
import Derived.Deep.RegionLawGrows
namespace Go.Proofs.YtkdmljijgfejpaaDoor
set_option linter.unusedVariables false
set_option linter.unusedSimpArgs false
open Go.RowKit Dk Wl Fr

/-- the head that counts, behind so many blocks -/
def hds (room : Nat) (b0 b1 : List UInt8) : Nat → H
  | 0 => H.zero
  | 1 => if isHead room 0 b0 then hOf b0 else H.zero
  | _ => pickH room b0 b1
theorem hds_step {room : Nat} {b0 b1 : List UInt8} {k : Nat} (hk : k < 2) (b : List UInt8) (hb : b = if k = 0 then b0 else b1) :
    hds room b0 b1 (k + 1) = if isHead room k b && decide ((hds room b0 b1 k).gen ≤ (hOf b).gen) then hOf b else hds room b0 b1 k := by
  have h : k = 0 ∨ k = 1 := by omega
  rcases h with rfl | rfl
  · rw [if_pos rfl] at hb
    subst hb
    show (if isHead room 0 b = true then hOf b else H.zero) = if (isHead room 0 b && decide (H.zero.gen ≤ (hOf b).gen)) = true then hOf b else H.zero
    have : decide (H.zero.gen ≤ (hOf b).gen) = true := decide_eq_true (Nat.zero_le _)
    rw [this, Bool.and_true]
  · rw [if_neg (by decide)] at hb
    subst hb
    rfl
theorem LogAt.setHead {w : World} {q p : Nat} {h h' : H} {vu : Value} (l : LogAt w q p h vu) : LogAt (w.setCells q 1 [.int .i64 (h'.gen : Int), .int .i64 (h'.area : Int), .int .i64 (h'.used : Int)]) q p h' vu := by
  have h1 := setCell_row w q 1 _ _ _ (.int .i64 (h'.gen : Int)) l
  have h2 := setCell_row _ q 2 _ _ _ (.int .i64 (h'.area : Int)) h1
  exact setCell_row _ q 3 _ _ _ (.int .i64 (h'.used : Int)) h2
theorem LogAt.setUsed {w : World} {q p : Nat} {h : H} {vu : Value} (l : LogAt w q p h vu) (u : Value) : LogAt (w.setCell ⟨q, 4, none⟩ u) q p h u := setCell_row w q 4 _ _ _ u l
theorem LogAt.free {w : World} {q p : Nat} {h : H} {vu : Value} (l : LogAt w q p h vu) (i : Nat) : w.frozen? ⟨q, i, none⟩ = false := by
  have l' : w.heap[q]? = some (.cells (lcells p h vu) 99 (0, 0)) := l
  simp [World.frozen?, l']
theorem LogAt.there {w : World} {q p : Nat} {h : H} {vu : Value} (l : LogAt w q p h vu) : w.there q 1 3 := fun j hj => by
  obtain ⟨-, c1, c2, c3, -⟩ := l.cells
  refine ⟨?_, l.free _⟩
  have : j = 0 ∨ j = 1 ∨ j = 2 := by omega
  rcases this with rfl | rfl | rfl
  · rw [c1]; rfl
  · rw [c2]; rfl
  · rw [c3]; rfl
theorem Ext.cellSet {a w : World} (h : Ext a w) {g : Nat} (hg : a.heap.size ≤ g) (o : Nat) (u : Value) : Ext a (w.setCell ⟨g, o, none⟩ u) :=
  h.chg (p := fun k => k = g) ((Chg.refl (fun k => k = g) w).setCell (fun _ => rfl) u) fun i hi => by subst hi; exact hg
theorem Ext.cellsSet {a w : World} (h : Ext a w) {g : Nat} (hg : a.heap.size ≤ g) (o : Nat) (vs : List Value) : Ext a (w.setCells g o vs) :=
  h.chg (p := fun k => k = g) (setCells_chg (p := fun k => k = g) g rfl vs o w) fun i hi => by subst hi; exact hg
theorem info_head' (G A U : Nat) : (Tryd.prog.info? 97).map (·.size) = some (#[.int .i64 (G : Int), .int .i64 (A : Int), .int .i64 (U : Int)] : Array Value).size := info_head
theorem step_load_h {ops : Array Oper} {rest : List Oper} {o : Oper} {a : Act} {w : World} {Q : Exit → Act → World → Prop} (hgd : o.guard = none) (x : Operand) (ho : o.op = .load 97 x)
    (g : Nat) (hx : a.eval x = .pointer (some ⟨g, 0, none⟩)) (G A U : Nat) (hg : w.heap[g]? = some (.cells #[.int .i64 (G : Int), .int .i64 (A : Int), .int .i64 (U : Int)] 97 (0, 0)))
    (h : wpList Tryd.prog ops Q rest (a.put o.dst (.agg #[.int .i64 (G : Int), .int .i64 (A : Int), .int .i64 (U : Int)])) w) : wpList Tryd.prog ops Q (o :: rest) a w :=
  wpList_load_row hgd 97 x ho g hx 97 _ (0, 0) _ hg Tryd.underlying97 rfl (info_head' G A U) h
theorem step_store_h {ops : Array Oper} {rest : List Oper} {o : Oper} {a : Act} {w : World} {Q : Exit → Act → World → Prop} (hgd : o.guard = none) (x y : Operand) (ho : o.op = .store 97 x y)
    (q p : Nat) (h0 : H) (vu : Value) (hx : a.eval x = .pointer (some ⟨q, 1, none⟩)) (G A U : Nat) (hy : a.eval y = .agg #[.int .i64 (G : Int), .int .i64 (A : Int), .int .i64 (U : Int)]) (hl : LogAt w q p h0 vu)
    (h : LogAt (w.setCells q 1 [.int .i64 (G : Int), .int .i64 (A : Int), .int .i64 (U : Int)]) q p ⟨G, A, U⟩ vu → wpList Tryd.prog ops Q rest (a.put o.dst undef) (w.setCells q 1 [.int .i64 (G : Int), .int .i64 (A : Int), .int .i64 (U : Int)])) : wpList Tryd.prog ops Q (o :: rest) a w :=
  wpList_store_mid hgd 97 x y ho q 1 #[.int .i64 (G : Int), .int .i64 (A : Int), .int .i64 (U : Int)] hx hy hl.there (info_head' G A U) (by simp [Value.oneCell']) (h (hl.setHead (h' := ⟨G, A, U⟩)))
theorem step_appendB {ops : Array Oper} {o : Oper} {a : Act} {w : World} {K : Act → World → Prop} {Q : Exit → Act → World → Prop} {E : Prop} (hgd : o.guard = none) (s x : Operand)
    (ho : o.op = .call { callee := .builtin .append, args := #[s, x], argTypes := #[23, 23] })
    (base : Nat) (v : Value) (l : List UInt8) (hs : a.eval s = v) (hown : OwnB w base v l) (u : Value) (m : List UInt8) (hx : a.eval x = u) (hb : Bytes w u m)
    (hsz : l.length + m.length ≤ 140737488355328) (hbase : base ≤ w.heap.size)
    (h : ∀ v' w', OwnB w' base v' (l ++ m) → w.grownBy w' v.ownBlock → K (a.put o.dst v') w') :
    if Region.wanted o (yielded ops a.tmps) = true then Oper.wp Tryd.prog o a w K Q else E := by
  have hw : Region.wanted o (yielded ops a.tmps) = true := by simp [Region.wanted, hgd]
  rw [if_pos hw]
  exact wp_appendB s x ho base v l hs hown u m hx hb hsz hbase h
theorem OwnB.chg {w w' : World} {base : Nat} {F : Nat → Prop} {v : Value} {l : List UInt8} (h : OwnB w base v l) (c : Chg F w w') (hF : ∀ k, base ≤ k → ¬ F k) : OwnB w' base v l := by
  obtain ⟨h1, h2⟩ := h
  refine ⟨h1, ?_⟩
  rcases h2 with h | ⟨g, cap, cur, k1, k2, k3, r⟩
  · exact .inl h
  · exact .inr ⟨g, cap, cur, k1, k2, (c.block g (Array.getElem?_eq_some_iff.1 k3).1 (hF g k2)).trans k3, r⟩
theorem pickH_fine (room : Nat) (b0 b1 : List UInt8) : (pickH room b0 b1).Fine ∧ (pickH room b0 b1).used ≤ room := by
  have z : H.zero.Fine ∧ H.zero.used ≤ room := ⟨⟨by decide, by decide, by decide⟩, Nat.zero_le _⟩
  have k : ∀ i b, isHead room i b = true → (hOf b).Fine ∧ (hOf b).used ≤ room := fun i b h => ⟨hOf_fine b, (isHead_iff.1 h).2.2⟩
  unfold pickH
  dsimp only
  by_cases h0 : isHead room 0 b0 = true
  · rw [if_pos h0]
    split
    · rename_i h
      rw [Bool.and_eq_true] at h
      exact k 1 b1 h.1
    · exact k 0 b0 h0
  · rw [if_neg h0]
    split
    · rename_i h
      rw [Bool.and_eq_true] at h
      exact k 1 b1 h.1
    · exact z
theorem LogAt.grown {w w' : World} {q p : Nat} {h : H} {vu : Value} {row : Option Nat} (l : LogAt w q p h vu) (g : w.grownBy w' row) (hn : row ≠ some q) : LogAt w' q p h vu := (g.block q l.lt (fun e => hn e.symm)).trans l
set_option maxRecDepth 20000 in
set_option maxHeartbeats 4000000 in
theorem lopen_any {w : World} {F : Nat → Prop} {p : Nat} {d : D} (hD : Disk w F p d) (hok : d.Ok) (hw : Halves w) (hF : ∀ k, F k → k < w.heap.size) :
    Calls Tryd.prog 37 #[.pointer (some ⟨p, 0, none⟩)] w (Ret fun r w' => Ext w w' ∧ ((openE d ≠ 0 ∧ r = .tuple #[.pointer none, .int .i64 (openE d)]) ∨
      (openE d = 0 ∧ ∃ q, r = .tuple #[.pointer (some ⟨q, 0, none⟩), .int .i64 0] ∧ w.heap.size ≤ q ∧ ∃ vu, LogAt w' q p (openH d) vu ∧ Bytes w' vu (openU d) ∧ ∀ k, vblk vu = some k → openU d ≠ [] → w.heap.size ≤ k ∧ k ≠ q))) := by
  have hln := len_any hD
  by_cases h4 : d.n < 4
  · have hE := Lib.hid (show openE d = 1 from if_pos h4)
    have q4 : (d.n : Int) < 4 := by omega
    clear hok hw hF
    go_enter Tryd.func37, Tryd.ntmps37
    go_wp2_with (go_at_call 49; refine hln.mono ?_; rintro e w' ⟨rfl, rfl⟩)
    go_ret2
    exact Ret.mk ⟨Ext.refl _, .inl ⟨by rw [hE.out]; decide, by rw [hE.out]; rfl⟩⟩
  have q4 : ¬ (d.n : Int) < 4 := by omega
  have h512 := hok.most
  have hDh := Lib.hid hD
  have hwh := Lib.hid hw
  have hokh := Lib.hid hok
  have h4' := Lib.hid (show 4 ≤ d.n by omega)
  have h512h := Lib.hid h512
  clear hD hok hw h4 h512
  go_enter Tryd.func37, Tryd.ntmps37
  go_upto_block 0 with (go_at_call 49; refine hln.mono ?_; rintro e w' ⟨rfl, rfl⟩)
  have hL0 := Lib.hid (show LogAt (w.alloc (.cells #[.pointer (some ⟨p, 0, none⟩), .int .i64 0, .int .i64 0, .int .i64 0, .slice none 0 0] 99)) w.heap.size p (hds (32 * areaN d.n) (rdB 0 d) (rdB 1 d) 0) (.slice none 0 0) from heap_alloc_new w _)
  have hE0 := Lib.hid ((Ext.refl w).alloc (.cells #[.pointer (some ⟨p, 0, none⟩), .int .i64 0, .int .i64 0, .int .i64 0, .slice none 0 0] 99))
  generalize w.alloc (.cells #[.pointer (some ⟨p, 0, none⟩), .int .i64 0, .int .i64 0, .int .i64 0, .slice none 0 0] 99) = w0 at *
  obtain ⟨q, hq⟩ : ∃ q, q = w.heap.size := ⟨_, rfl⟩
  rw [← hq] at hL0 ⊢
  have hqh := Lib.hid (show w.heap.size ≤ q from by omega)
  have hFh := Lib.hid hF
  clear hq hF hln
  go_cut [17] (fun i wd => LogAt wd q p (openH d) (.slice none 0 0) ∧ Ext w wd)
  case first =>
    go_wp2_with fail
    go_loopw [17] (fun i wr => ∃ k : Nat, k ≤ 2 ∧ i = .int .i64 (k : Int) ∧ RowKit.Hid (LogAt wr q p (hds (32 * areaN d.n) (rdB 0 d) (rdB 1 d) k) (.slice none 0 0)) ∧ Ext w wr) (fun i _ => 2 - (intOf i).toNat)
    case atStart => exact ⟨0, by omega, rfl, hL0, hE0.out⟩
    case round =>
      obtain ⟨k, hk, rfl, hl, ek⟩ := hrel
      by_cases hlt : k < 2
      · have hst := hds_step (room := 32 * areaN d.n) (b0 := rdB 0 d) (b1 := rdB 1 d) hlt (rdB (k : Int) d) (by
          have : k = 0 ∨ k = 1 := by omega
          rcases this with rfl | rfl <;> rfl)
        have hlr := lread_any hl.out (hDh.out.ext ek) h4'.out h512h.out hokh.out k hlt (hwh.out.ext ek)
        have hki : (k : Int) < 2 := by omega
        have hwr : IntKind.i64.wrap ((k : Int) + 1) = (k : Int) + 1 := wrap_le (by omega) (by omega)
        have hsth := Lib.hid hst
        clear hst
        generalize hds (32 * areaN d.n) (rdB 0 d) (rdB 1 d) k = hk0 at *
        generalize hk1e : hds (32 * areaN d.n) (rdB 0 d) (rdB 1 d) (k + 1) = hk1 at hsth
        have hk1h := Lib.hid hk1e
        clear hk1e
        generalize isHead (32 * areaN d.n) k (rdB (k : Int) d) = ok at *
        generalize hOf (rdB (k : Int) d) = hh at *
        obtain ⟨G, A, U⟩ := hh
        unfold hagg at hlr
        dsimp only at hlr
        go_upto_region 8 with (go_at_call 50; refine hlr.mono ?_; rintro e w1 ⟨rfl, e1⟩)
        have hB6 := heap_alloc_new w1 (.cells #[.int .i64 (G : Int), .int .i64 (A : Int), .int .i64 (U : Int)] 97)
        have c6 := cell_at hB6 0 (u := .int .i64 (G : Int)) rfl
        have e2 := e1.alloc (.cells #[.int .i64 (G : Int), .int .i64 (A : Int), .int .i64 (U : Int)] 97)
        generalize w1.alloc (.cells #[.int .i64 (G : Int), .int .i64 (A : Int), .int .i64 (U : Int)] 97) = w2 at *
        generalize w1.heap.size = B6 at *
        have l2 := hl.out.ext e2
        have c1 := l2.cells.2.1
        have l2h := Lib.hid l2
        have e2h := Lib.hid (ek.trans e2)
        have hB6h := Lib.hid hB6
        clear l2 e1 e2 hB6 hl ek hlr
        cases ok
        · have hst2 := Lib.hid (show hk1 = hk0 from by rw [hsth.out]; rfl)
          clear hsth
          go_quiet (fail)
          go_wp2
          go_roundw
          case rel => exact ⟨k + 1, by omega, by go_num, Lib.hid (by rw [hk1h.out, hst2.out]; exact l2h.out.ext (Ext.drewM _ _)), e2h.out.trans (Ext.drewM _ _)⟩
          case measure => simp [intOf]; omega
        · by_cases hge : hk0.gen ≤ G
          · have hst2 := Lib.hid (show hk1 = ⟨G, A, U⟩ from by rw [hsth.out, decide_eq_true hge]; rfl)
            have d1 : decide (hk0.gen ≤ G) = true := decide_eq_true hge
            clear hsth hge
            go_quiet (fail)
            have hB7 := Lib.hid ((Ext.drewM w2 nq).heap hB6h.out)
            have l3 := Lib.hid (l2h.out.ext (Ext.drewM w2 nq))
            have e3 := Lib.hid (e2h.out.trans (Ext.drewM w2 nq))
            clear c6 c1 l2h e2h hB6h
            generalize w2.drewN nq = w3 at *
            go_wp2_with (first
              | (refine step_load_h rfl (.tmp 6) rfl B6 rfl G A U hB7.out ?_)
              | (refine step_store_h rfl (.tmp 40) (.tmp 38) rfl q p hk0 (.slice none 0 0) rfl G A U rfl l3.out ?_; intro l4))
            go_roundw
            case rel => exact ⟨k + 1, by omega, by go_num, Lib.hid (by rw [hk1h.out, hst2.out]; exact l4), e3.out.cellsSet hqh.out _ _⟩
            case measure => simp [intOf]; omega
          · have hst2 := Lib.hid (show hk1 = hk0 from by rw [hsth.out, decide_eq_false hge]; rfl)
            have d1 : decide (hk0.gen ≤ G) = false := decide_eq_false hge
            clear hsth hge
            go_quiet (fail)
            go_wp2
            go_roundw
            case rel => exact ⟨k + 1, by omega, by go_num, Lib.hid (by rw [hk1h.out, hst2.out]; exact l2h.out.ext (Ext.drewM _ _)), e2h.out.trans (Ext.drewM _ _)⟩
            case measure => simp [intOf]; omega
      · obtain rfl : k = 2 := by omega
        go_wp2
        go_meet
        exact ⟨hl.out, ek⟩
  case rest =>
    obtain ⟨hl, eh⟩ := hcut
    obtain ⟨w1, rfl⟩ : ∃ W, W = wc := ⟨_, rfl⟩
    have hlh := Lib.hid hl
    have ehh := Lib.hid eh
    have hsz := lsize_any hl (hDh.out.ext eh) h4'.out h512h.out
    have hfine := pickH_fine (32 * areaN d.n) (rdB 0 d) (rdB 1 d)
    have hfo : (openH d).area < 2 := hfine.1.area
    have hfu := Lib.hid (show (openH d).used ≤ 32 * areaN d.n from hfine.2)
    clear hfine
    clear hL0 hE0 hl eh
    generalize hHe : openH d = hh at *
    have hHh := Lib.hid hHe
    clear hHe
    obtain ⟨G, A, U⟩ := hh
    go_upto_block 2 with (go_at_call 51; refine hsz.mono ?_; clear hsz; rintro e w1' ⟨rfl, rfl⟩)
    have hm : areaN d.n ≤ 256 := by have := h512h.out; unfold areaN; omega
    have hbn := Lib.hid (show 2 + A * areaN d.n + areaN d.n ≤ d.n from by
      have : A = 0 ∨ A = 1 := by omega
      rcases this with rfl | rfl <;> (unfold areaN; omega))
    obtain ⟨m, hmm⟩ : ∃ m, m = areaN d.n := ⟨_, rfl⟩
    rw [← hmm] at hm ⊢
    have hmh := Lib.hid hmm
    clear hmm
    go_cut [44] (fun i wd => ∃ vu, LogAt wd q p ⟨G, A, U⟩ vu ∧ Ext w wd ∧ OwnB wd (q + 1) vu (areaB d A))
    case first =>
      go_wp2_with fail
      go_loopw [44] (fun i wr => ∃ k : Nat, k ≤ m ∧ i = .int .i64 (k : Int) ∧ ∃ vu, RowKit.Hid (LogAt wr q p ⟨G, A, U⟩ vu) ∧ Ext w wr ∧ RowKit.Hid (OwnB wr (q + 1) vu ((List.range k).flatMap fun i => rdB ((2 + A * areaN d.n + i : Nat) : Int) d))) (fun i _ => m - (intOf i).toNat)
      case atStart => exact ⟨0, Nat.zero_le _, rfl, _, hlh, ehh.out, Lib.hid (World.ownsRow_nil _ _ _ 1)⟩
      case round =>
        obtain ⟨k, hk, rfl, vu, hl, ek, ho⟩ := hrel
        by_cases hlt : k < m
        · have hki : (k : Int) < (m : Int) := by omega
          have hwr : IntKind.i64.wrap ((k : Int) + 1) = (k : Int) + 1 := wrap_le (by omega) (by omega)
          have hbl := Lib.hid (show ∀ W (e : Ext wr W), _ from fun W e => lblock_any (hl.out.ext e) ((hDh.out.ext ek).ext e) h4'.out h512h.out A k hfo (by omega))
          rw [← hmh.out] at hbl
          obtain ⟨blk', hblk'⟩ : ∃ n, n = 2 + A * m + k := ⟨_, rfl⟩
          have hlt2 := Lib.hid (show blk' < d.n from by rw [hblk']; have := hbn.out; rw [← hmh.out] at this; omega)
          have hrd := Lib.hid (show ∀ W (e : Ext wr W), _ from fun W e => read_any ((hDh.out.ext ek).ext e) (blk' : Int))
          have hrl := Lib.hid (rdB_len hokh.out hlt2.out)
          have hnx := Lib.hid (show ((List.range (k + 1)).flatMap fun i => rdB ((2 + A * areaN d.n + i : Nat) : Int) d) = ((List.range k).flatMap fun i => rdB ((2 + A * areaN d.n + i : Nat) : Int) d) ++ rdB (blk' : Int) d from by
            rw [List.range_succ, List.flatMap_append, hblk', ← hmh.out]; simp)
          rw [← hblk'] at hbl
          have hfl := Lib.hid (show ((List.range k).flatMap fun i => rdB ((2 + A * areaN d.n + i : Nat) : Int) d).length = 32 * k from flat_length _ k (fun i hi => rdB_len hokh.out (by have := hbn.out; rw [← hmh.out] at this; rw [← hmh.out]; omega)))
          obtain ⟨av, cv, rfl, -⟩ := ho.out.bytes
          generalize hL : ((List.range k).flatMap fun i => rdB ((2 + A * areaN d.n + i : Nat) : Int) d) = L at *
          generalize rdB (blk' : Int) d = b at *
          have hLh := Lib.hid hL
          have c4 := hl.out.cells.2.2.2.2
          have c2 := hl.out.cells.2.2.1
          have hqw := Lib.hid (show q + 1 ≤ wr.heap.size from hl.out.lt)
          clear hL hblk'
          go_upto_region 14 with fail
          go_region_law (first
            | (go_simp; go_at_call 53; refine (hbl.out _ (by (repeat (first | exact Ext.refl _ | with_reducible assumption | refine Ext.drew ?_ | refine Ext.alloc ?_ _ | refine Ext.trans ?_ (by assumption))))).mono ?_; rintro e w2 ⟨rfl, rfl⟩; go_wp2_with fail)
            | (go_simp; go_at_call 52; refine (hrd.out _ (by (repeat (first | exact Ext.refl _ | with_reducible assumption | refine Ext.drew ?_ | refine Ext.alloc ?_ _ | refine Ext.trans ?_ (by assumption))))).mono ?_; rintro e w3 ⟨v3, rfl, hb3, e3⟩; have d4 := ((hl.out.ext (by (repeat (first | exact Ext.refl _ | with_reducible assumption | refine Ext.drew ?_ | refine Ext.alloc ?_ _ | refine Ext.trans ?_ (by assumption))) : Ext wr w3)).cells).2.2.2.2; go_wp2_with fail)
            | (refine step_appendB rfl (.tmp 51) (.tmp 61) rfl (q + 1) (.slice av L.length cv) L rfl (ho.out.ext (by (repeat (first | exact Ext.refl _ | with_reducible assumption | refine Ext.drew ?_ | refine Ext.alloc ?_ _ | refine Ext.trans ?_ (by assumption))))) _ b rfl hb3 (by have := hfl.out; have := hrl.out; omega) (Nat.le_trans hqw.out (Below.size (by (repeat (first | exact Ext.refl _ | with_reducible assumption | refine Ext.drew ?_ | refine Ext.alloc ?_ _ | refine Ext.trans ?_ (by assumption))) : Ext wr w3))) ?_; intro v5 w5 o5 g5; obtain ⟨a5, c5, rfl, -⟩ := id o5.bytes; have l5 := (hl.out.ext (by (repeat (first | exact Ext.refl _ | with_reducible assumption | refine Ext.drew ?_ | refine Ext.alloc ?_ _ | refine Ext.trans ?_ (by assumption))) : Ext wr w3)).grown g5 (fun e => by have := ho.out.lt _ e; omega); have d5 := l5.cells.2.2.2.2; have f5 := l5.free 4))
          all_goals
            have l6 := l5.setUsed (.slice a5 (L ++ b).length c5)
            have e5 : Ext w w5 := (ek.trans (by (repeat (first | exact Ext.refl _ | with_reducible assumption | refine Ext.drew ?_ | refine Ext.alloc ?_ _ | refine Ext.trans ?_ (by assumption))) : Ext wr w3)).grown g5 (fun kk hkk => by have := ho.out.lt _ hkk; have := hqh.out; omega)
            have e6 := e5.cellSet hqh.out 4 (.slice a5 (L ++ b).length c5)
            have o6 : OwnB (w5.setCell ⟨q, 4, none⟩ (.slice a5 (L ++ b).length c5)) (q + 1) (.slice a5 (L ++ b).length c5) (L ++ b) := o5.chg (F := fun k => k = q) ((Chg.refl (fun k => k = q) w5).setCell (fun _ => rfl) _) (fun kk hkk => by omega)
            rw [List.length_append] at l6 e6 o6
            go_wp2
            go_roundw
            case rel => exact ⟨k + 1, by omega, by go_num, _, Lib.hid l6, e6, Lib.hid (by rw [hnx.out]; exact o6)⟩
            case measure => simp [intOf]; omega
        · obtain rfl : k = m := by omega
          go_wp2
          go_meet
          exact ⟨_, hl.out, ek, by have := ho.out; rw [hmh.out] at this; exact this⟩
    case rest =>
      obtain ⟨vu, hl, ek, ho⟩ := hcut
      obtain ⟨w5, rfl⟩ : ∃ W, W = wc := ⟨_, rfl⟩
      have hU : openU d = (areaB d A).take U := by unfold openU; rw [hHh.out]
      have hal : (areaB d A).length = 32 * m := by
        rw [hmh.out]
        exact flat_length _ _ (fun i hi => rdB_len hokh.out (by have := hbn.out; omega))
      have hUl : U ≤ (areaB d A).length := by rw [hal, hmh.out]; exact hfu.out
      obtain ⟨av, cv, rfl, -⟩ := ho.bytes
      have hvc := ho.bytes.cp.2.1
      have c4 := hl.cells.2.2.2.2
      have c3 := hl.cells.2.2.2.1
      have f4 := hl.free 4
      have g1 : (0 : Int) ≤ (U : Int) := by omega
      have g2 : (U : Int) ≤ (cv : Int) := by omega
      have hlh2 := Lib.hid hl
      have ekh := Lib.hid ek
      have hoh := Lib.hid ho
      have hUh := Lib.hid hU
      have hUlh := Lib.hid hUl
      have halh := Lib.hid hal
      clear hl ek ho hU hUl hal
      go_upto_region 16 with fail
      go_region
      have l6 := (hlh2.out.setUsed (.slice av U cv)).ext (Ext.refl _).drew
      have e6 := (ekh.out.cellSet hqh.out 4 (.slice av U cv)).drew
      have o6 := hoh.out.chg (F := fun k => k = q) (((Chg.refl (fun k => k = q) w5).setCell (x := ⟨q, 4, none⟩) (fun _ => rfl) (.slice av U cv)).drew) (fun kk hkk => by omega)
      have b6 := o6.bytes.ini U hUlh.out
      rw [← hUh.out] at b6
      have hvb := Lib.hid (show ∀ k, vblk (.slice av U cv) = some k → openU d ≠ [] → w.heap.size ≤ k ∧ k ≠ q from fun k hk _ => by
        have : q + 1 ≤ k := hoh.out.lt k (by
          cases av with
          | none => cases hk
          | some a => exact hk)
        have := hqh.out
        omega)
      have hul := Lib.hid (show (openU d).length = U from by rw [hUh.out, List.length_take]; have := hUlh.out; omega)
      generalize (w5.setCell ⟨q, 4, none⟩ (.slice av U cv)).drew = w6 at *
      have c4 := l6.cells.2.2.2.2
      have hscan := scan_any _ _ w6 (hwh.out.ext e6) b6 (by have := hUlh.out; have := halh.out; have := hul.out; omega)
      have l6h := Lib.hid l6
      have e6h := Lib.hid e6
      have b6h := Lib.hid b6
      clear o6 l6 e6 b6 c3 f4
      go_upto_region 18 with (go_at_call 54; refine hscan.mono ?_; rintro e w7 ⟨r, rfl, x7, rfl, -, e7⟩)
      have l7 := l6h.out.ext e7
      have c3 := l7.cells.2.2.2.1
      have l7h := Lib.hid l7
      have e7h := Lib.hid (e6h.out.trans e7)
      have b7h := Lib.hid (b6h.out.ext e7)
      have hEd := Lib.hid (show openE d = if Fr.size (scan (openU d)) = U then 0 else 20 from by
        unfold openE
        rw [if_neg (by have := h4'.out; omega), hHh.out])
      clear hscan l7 e7 l6h e6h b6h
      generalize Fr.size (scan (openU d)) = N at *
      by_cases hN : N = U
      · have q1 : ((N : Int) != (U : Int)) = false := by simp [hN]
        have hE := Lib.hid (show openE d = 0 from by rw [hEd.out, if_pos hN])
        clear hEd hN
        go_wp2
        go_ret2
        exact Ret.mk ⟨e7h.out, .inr ⟨hE.out, q, rfl, hqh.out, _, by rw [hHh.out]; exact l7h.out, b7h.out, hvb.out⟩⟩
      · have q1 : ((N : Int) != (U : Int)) = true := by simp; omega
        have hE := Lib.hid (show openE d = 20 from by rw [hEd.out, if_neg hN])
        clear hEd hN
        go_wp2
        go_ret2
        exact Ret.mk ⟨e7h.out, .inl ⟨by rw [hE.out]; decide, by rw [hE.out]; rfl⟩⟩
end Go.Proofs.YtkdmljijgfejpaaDoor
