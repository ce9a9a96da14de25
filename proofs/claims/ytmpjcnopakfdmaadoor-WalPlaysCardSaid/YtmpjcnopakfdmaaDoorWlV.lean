/- The document's log: Open. -/
import Derived.Test.YtmpjcnopakfdmaaDoorWlT
import Derived.Test.YtmpjcnopakfdmaaDoorWlO
import Derived.Test.YtmpjcnopakfdmaaDoorFrH
namespace Go.Proofs.YtmpjcnopakfdmaaDoor
set_option linter.unusedVariables false
set_option linter.unusedSimpArgs false
open Go.RowKit Dk Wl Fr

def rlcells (p : Nat) (h : H) (vl : Value) : Array Value := #[.pointer (some ⟨p, 0, none⟩), .int .i64 (h.gen : Int), .int .i64 (h.area : Int), .int .i64 (h.used : Int), vl]
def RLogAt (w : World) (q p : Nat) (h : H) (vl : Value) : Prop := w.heap[q]? = some (.cells (rlcells p h vl) 99 (0, 0))
theorem RLogAt.cells {w : World} {q p : Nat} {h : H} {vu : Value} (l : RLogAt w q p h vu) :
    w.cell? ⟨q, 0, none⟩ = some (.pointer (some ⟨p, 0, none⟩)) ∧ w.cell? ⟨q, 1, none⟩ = some (.int .i64 (h.gen : Int)) ∧ w.cell? ⟨q, 2, none⟩ = some (.int .i64 (h.area : Int)) ∧ w.cell? ⟨q, 3, none⟩ = some (.int .i64 (h.used : Int)) ∧ w.cell? ⟨q, 4, none⟩ = some vu :=
  ⟨cell_at l 0 rfl, cell_at l 1 rfl, cell_at l 2 rfl, cell_at l 3 rfl, cell_at l 4 rfl⟩
theorem RLogAt.lt {w : World} {q p : Nat} {h : H} {vu : Value} (l : RLogAt w q p h vu) : q < w.heap.size := (Array.getElem?_eq_some_iff.1 l).1
theorem RLogAt.ext {w w' : World} {q p : Nat} {h : H} {vu : Value} (l : RLogAt w q p h vu) (e : Ext w w') : RLogAt w' q p h vu := e.heap l
theorem RLogAt.chg {w w' : World} {q p : Nat} {h : H} {vu : Value} {F : Nat → Prop} (l : RLogAt w q p h vu) (c : Chg F w w') (hF : ¬ F q) : RLogAt w' q p h vu := (c.block q l.lt hF).trans l
theorem RLogAt.free {w : World} {q p : Nat} {h : H} {vu : Value} (l : RLogAt w q p h vu) (i : Nat) : w.frozen? ⟨q, i, none⟩ = false := by
  have l' : w.heap[q]? = some (.cells (rlcells p h vu) 99 (0, 0)) := l
  simp [World.frozen?, l']
theorem RLogAt.set1 {w : World} {q p g a u n : Nat} {vu : Value} (l : RLogAt w q p ⟨g, a, u⟩ vu) : RLogAt (w.setCell ⟨q, 1, none⟩ (.int .i64 (n : Int))) q p ⟨n, a, u⟩ vu := setCell_row w q 1 _ _ _ _ l
theorem RLogAt.set2 {w : World} {q p g a u n : Nat} {vu : Value} (l : RLogAt w q p ⟨g, a, u⟩ vu) : RLogAt (w.setCell ⟨q, 2, none⟩ (.int .i64 (n : Int))) q p ⟨g, n, u⟩ vu := setCell_row w q 2 _ _ _ _ l
theorem RLogAt.set3 {w : World} {q p g a u n : Nat} {vu : Value} (l : RLogAt w q p ⟨g, a, u⟩ vu) : RLogAt (w.setCell ⟨q, 3, none⟩ (.int .i64 (n : Int))) q p ⟨g, a, n⟩ vu := setCell_row w q 3 _ _ _ _ l
theorem RLogAt.set4 {w : World} {q p : Nat} {h : H} {vu : Value} (l : RLogAt w q p h vu) (u : Value) : RLogAt (w.setCell ⟨q, 4, none⟩ u) q p h u := setCell_row w q 4 _ _ _ _ l
/-- a block's number, byte by byte -/
def nJ (b : List UInt8) : Nat → Nat
  | 0 => 0
  | j + 1 => 256 * nJ b j + at0 b (4 + j)
theorem nJ_four (b : List UInt8) : nJ b 4 = nOf b := by
  show 256 * (256 * (256 * (256 * 0 + at0 b 4) + at0 b 5) + at0 b 6) + at0 b 7 = nOf b
  unfold nOf; omega
theorem nJ_lt (b : List UInt8) : ∀ j, j ≤ 4 → nJ b j < 256 ^ j
  | 0, _ => by simp [nJ]
  | j + 1, h => by
    have := nJ_lt b j (by omega)
    have h2 := (b.getD (4 + j) 0).toNat_lt
    have h3 : at0 b (4 + j) = (b.getD (4 + j) 0).toNat := rfl
    rw [nJ, Nat.pow_succ]; omega
theorem nJ_lt4 (b : List UInt8) (j : Nat) (h : j ≤ 4) : nJ b j < 4294967296 := by
  have h1 := nJ_lt b j h
  have h2 : (256 : Nat) ^ j ≤ 256 ^ 4 := Nat.pow_le_pow_right (by decide) h
  have h3 : (256 : Nat) ^ 4 = 4294967296 := by decide
  omega
theorem z_room {n m A Y Z : Nat} (h4 : 4 ≤ n) (hA : A < 2) (hm : m = areaN n) (hY : Y = A * m) (hZ : Z = 2 + Y) : ∀ k, k < m → Z + k < n := fun k hk => by
  have h1 := areaN_le n h4
  rcases area_case hA m with ⟨_, e⟩ | ⟨_, e⟩ <;> omega
set_option maxRecDepth 20000 in
set_option maxHeartbeats 4000000 in
theorem ropen_any {w : World} {p : Nat} {d : D} (hD : RV w p d) (hok : d.Ok) :
    Calls Tryd.prog 28 #[.pointer (some ⟨p, 0, none⟩)] w (Ret fun r w' => Ext w w' ∧ ((openE d ≠ 0 ∧ r = .tuple #[.pointer none, .int .i64 (openE d)]) ∨
      (openE d = 0 ∧ ∃ q, r = .tuple #[.pointer (some ⟨q, 0, none⟩), .int .i64 0] ∧ w.heap.size ≤ q ∧ ∃ vl, RLogAt w' q p (openH d) vl ∧ OwnLL w' (q + 1) (fun k => q + 1 ≤ k) vl (scan (openU d))))) := by
  have hln := hD.len w (Ext.refl w)
  by_cases h4 : d.n < 4
  · have hE := Lib.hid (show openE d = 1 from if_pos h4)
    have q4 : (d.n : Int) < 4 := by omega
    clear hok
    go_enter Tryd.func28, Tryd.ntmps28
    go_wp2_with (go_at_call 58; refine hln.mono ?_; rintro e w' ⟨rfl, rfl⟩)
    go_ret2
    exact Ret.mk ⟨Ext.refl _, .inl ⟨by rw [hE.out]; decide, by rw [hE.out]; rfl⟩⟩
  have q4 : ¬ (d.n : Int) < 4 := by omega
  have h512 := hok.most
  have hDh := Lib.hid hD
  have hokh := Lib.hid hok
  have h4' := Lib.hid (show 4 ≤ d.n by omega)
  have h512h := Lib.hid h512
  clear hD hok h4 h512
  go_enter Tryd.func28, Tryd.ntmps28
  go_upto_block 0 with (go_at_call 58; refine hln.mono ?_; rintro e w' ⟨rfl, rfl⟩)
  have hL0 := Lib.hid (show RLogAt (w.alloc (.cells #[.pointer (some ⟨p, 0, none⟩), .int .i64 0, .int .i64 0, .int .i64 0, .slice none 0 0] 99)) w.heap.size p (hds (32 * areaN d.n) (rdB 0 d) (rdB 1 d) 0) (.slice none 0 0) from heap_alloc_new w _)
  have hE0 := Lib.hid ((Ext.refl w).alloc (.cells #[.pointer (some ⟨p, 0, none⟩), .int .i64 0, .int .i64 0, .int .i64 0, .slice none 0 0] 99))
  generalize w.alloc (.cells #[.pointer (some ⟨p, 0, none⟩), .int .i64 0, .int .i64 0, .int .i64 0, .slice none 0 0] 99) = w0 at *
  obtain ⟨q, hq⟩ : ∃ q, q = w.heap.size := ⟨_, rfl⟩
  rw [← hq] at hL0 ⊢
  have hqh := Lib.hid (show w.heap.size ≤ q from by omega)
  clear hq hln
  go_cut [13] (fun i wd => RLogAt wd q p (openH d) (.slice none 0 0) ∧ Ext w wd)
  case first =>
    go_wp2_with fail
    go_loopw [5] (fun i wr => ∃ k : Nat, k ≤ 2 ∧ i = .int .i64 (k : Int) ∧ RowKit.Hid (RLogAt wr q p (hds (32 * areaN d.n) (rdB 0 d) (rdB 1 d) k) (.slice none 0 0)) ∧ Ext w wr) (fun i _ => 2 - (intOf i).toNat)
    case atStart => exact ⟨0, by omega, rfl, hL0, hE0.out⟩
    case round =>
      obtain ⟨k, hk, rfl, hl, ek⟩ := hrel
      by_cases hlt : k < 2
      · have hst := hds_step (room := 32 * areaN d.n) (b0 := rdB 0 d) (b1 := rdB 1 d) hlt (rdB (k : Int) d) (by
          have : k = 0 ∨ k = 1 := by omega
          rcases this with rfl | rfl <;> rfl)
        have hrd := hDh.out.read _ (k : Int) ek
        have hbl := Lib.hid (rdB_len hokh.out (show k < d.n by have := h4'.out; omega))
        have hki : (k : Int) < 2 := by omega
        have hwr : IntKind.i64.wrap ((k : Int) + 1) = (k : Int) + 1 := wrap_le (by omega) (by omega)
        have hsth := Lib.hid hst
        clear hst
        generalize hds (32 * areaN d.n) (rdB 0 d) (rdB 1 d) k = hk0 at *
        generalize hk1e : hds (32 * areaN d.n) (rdB 0 d) (rdB 1 d) (k + 1) = hk1 at hsth
        have hk1h := Lib.hid hk1e
        clear hk1e
        generalize rdB (k : Int) d = b at *
        go_upto_block 2 with (go_at_call 59; refine hrd.mono ?_; rintro e w1 ⟨v, rfl, hb, rfl⟩)
        have hbh := Lib.hid hb
        obtain ⟨a, cp, rfl, -⟩ := id hb
        have hcp := hb.cp.2.1
        obtain ⟨g, o, rfl⟩ := hb.ad (by have := hbl.out; omega)
        rw [hbl.out] at hcp ⊢
        have hekh := Lib.hid ek
        clear hrd hb ek
        obtain ⟨w1, rfl⟩ : ∃ W, W = wr := ⟨_, rfl⟩
        go_cut [7] (fun n wd => n = .int .i64 (nOf b : Int) ∧ wd = w1)
        case first =>
          go_wp2_with fail
          go_loopw [7, 8] (fun n i wr => ∃ j : Nat, j ≤ 4 ∧ i = .int .i64 ((4 : Int) + (j : Int)) ∧ n = .int .i64 (nJ b j : Int) ∧ wr = w1) (fun _ i _ => 8 - (intOf i).toNat)
          case atStart => exact ⟨0, by omega, rfl, rfl, rfl⟩
          case round =>
            obtain ⟨j, hj, rfl, rfl, rfl⟩ := hrel
            by_cases hj4 : j < 4
            · have cj := hbh.out.gt (4 + j) (by have := hbl.out; omega)
              have hjl := nJ_lt4 b j hj
              have hj1 := nJ_lt4 b (j + 1) (by omega)
              have hji : (4 : Int) + (j : Int) < 8 := by omega
              have hnJ : 256 * (nJ b j : Int) + ((b.getD (4 + j) 0).toNat : Int) = (nJ b (j + 1) : Int) := by
                have : nJ b (j + 1) = 256 * nJ b j + (b.getD (4 + j) 0).toNat := rfl
                omega
              have g1 : IntKind.i64.wrap (256 * (nJ b j : Int)) = 256 * (nJ b j : Int) := wrap_le (by omega) (by omega)
              have g2 : IntKind.i64.wrap (nJ b (j + 1) : Int) = (nJ b (j + 1) : Int) := wrap_le (by omega) (by omega)
              have g3 : IntKind.i64.wrap ((4 : Int) + (j : Int) + 1) = (4 : Int) + (j : Int) + 1 := wrap_le (by omega) (by omega)
              have kb : IntKind.i64.wrap ((b.getD (4 + j) 0).toNat : Int) = ((b.getD (4 + j) 0).toNat : Int) := wrap_sm (by have := (b.getD (4 + j) 0).toNat_lt; omega)
              have hjn : ((4 : Int) + (j : Int)).toNat = 4 + j := by omega
              have hj0 : (0 : Int) ≤ 4 + (j : Int) := by omega
              have hj32 : (4 : Int) + (j : Int) < 32 := by omega
              clear hjl hj1
              generalize b.getD (4 + j) 0 = c at *
              go_wp2
              go_roundw
              case rel => exact ⟨j + 1, by omega, by congr 1, rfl, trivial⟩
              case measure => simp [intOf]; omega
            · obtain rfl : j = 4 := by omega
              go_wp2
              go_meet
              exact ⟨by rw [nJ_four], rfl⟩
        case rest =>
          obtain ⟨rfl, hwc⟩ := hcut
          obtain rfl : w1 = wc := hwc.symm
          have hnl := Lib.hid (nOf_lt b)
          have hof := Lib.hid (show hOf b = ⟨nOf b / 16384, nOf b / 8192 % 2, nOf b % 8192⟩ from rfl)
          have hfb := Lib.hid (hOf_fine b)
          have hih := Lib.hid (show isHead (32 * areaN d.n) k b = ((hb (hOf b) == b.take 8) && (((hOf b).gen % 2 == k) && decide ((hOf b).used ≤ 32 * areaN d.n))) from rfl)
          obtain ⟨G, hG⟩ : ∃ G, G = nOf b / 16384 := ⟨_, rfl⟩
          obtain ⟨A, hA⟩ : ∃ A, A = nOf b / 8192 % 2 := ⟨_, rfl⟩
          obtain ⟨U, hU⟩ : ∃ U, U = nOf b % 8192 := ⟨_, rfl⟩
          rw [← hG, ← hA, ← hU] at hof
          generalize nOf b = n at *
          have g1 : IntKind.i64.wrap ((n : Int) / 16384) = (G : Int) := quo_w (m := 16384) hnl.out hG.symm
          obtain ⟨n2, hn2⟩ : ∃ m, m = n / 8192 := ⟨_, rfl⟩
          have g2 : IntKind.i64.wrap ((n : Int) / 8192) = (n2 : Int) := quo_w (m := 8192) hnl.out hn2.symm
          have g3 : (n2 : Int) % 2 = (A : Int) := by rw [hA, ← hn2]; omega
          have g4 : (n : Int) % 8192 = (U : Int) := by rw [hU]; omega
          clear hG hA hU hn2
          rw [hof.out] at hfb hih hsth
          go_upto_region 16 with fail
          rw [g3, g4]
          clear g1 g2 g3 g4
          have hcv := fun W (e : Ext w1 W) => conv_bytes ((hbh.out.ini 8 (by rw [hbl.out]; decide)).ext e)
          have hS := Lib.hid (show ∀ W, Ext w1 W → (Ext w1 W ∧ W.cell? ⟨q, 1, none⟩ = some (.int .i64 (hk0.gen : Int)) ∧ (convert 22 9 (.slice (some ⟨g, o, none⟩) 8 cp)).run Tryd.prog W = .ok (.string (str (b.take 8))) W) from fun W e => ⟨e, (hl.out.ext e).cells.2.1, hcv W e⟩)
          have hhd := Lib.hid (fun W => rhead_any ⟨G, A, U⟩ hfb.out W)
          have hsz := Lib.hid (fun W (e : Ext w1 W) => rsize_any ((hDh.out.ext hekh.out).ext e) h4'.out h512h.out)
          obtain ⟨M, hM⟩ : ∃ M, M = 32 * areaN d.n := ⟨_, rfl⟩
          rw [← hM] at hsz hih hsth
          have hMh := Lib.hid hM
          have hc8 : (8 : Int) ≤ (cp : Int) := by omega
          have hc8n : 8 ≤ cp := by omega
          have e11 := Ext.refl w1
          clear hcv hM
          generalize hHB : hb ⟨G, A, U⟩ = HB at *
          clear hHB
          dsimp only at hih hsth
          by_cases hEq : HB = b.take 8
          · have q1 : seq HB (b.take 8) = true := seq_true.2 hEq
            have q1b : (HB == b.take 8) = true := by rw [beq_iff_eq]; exact hEq
            rw [q1b, Bool.true_and] at hih
            by_cases hP : G % 2 = k
            · have q2 := par_yes hP
              have q2b : (G % 2 == k) = true := by rw [beq_iff_eq]; exact hP
              rw [q2b, Bool.true_and] at hih
              by_cases hU : U ≤ M
              · have q3 : decide (U ≤ M) = true := decide_eq_true hU
                rw [q3] at hih
                by_cases hge : hk0.gen ≤ G
                · have q4 : decide (hk0.gen ≤ G) = true := decide_eq_true hge
                  have hst2 := Lib.hid (show hk1 = ⟨G, A, U⟩ from by rw [hsth.out, hih.out, q4]; rfl)
                  clear hsth hih hge hU hP q1b q2b hEq
                  -- BEGIN GE
                  refine wp_region_held_drew (S := (fun W => Ext w1 W ∧ W.cell? ⟨q, 1, none⟩ = some (.int .i64 (hk0.gen : Int)) ∧ (convert 22 9 (.slice (some ⟨g, o, none⟩) 8 cp)).run Tryd.prog W = .ok (.string (str (b.take 8))) W)) (by kernel_rfl) ?_ (fun hHeld => ?_)
                  · (refine hS.out _ ?_; (repeat (first | exact Ext.refl _ | with_reducible assumption | refine Ext.drew ?_ | refine Ext.alloc ?_ _ | refine Ext.trans ?_ (by assumption))))
                  refine wpAnyH_take (i := 0) (oi := ⟨some 48, _, _, _, _, _⟩) (v := ?_) rfl (by kernel_rfl) (by kernel_rfl) (by kernel_rfl) (fun _ _ _ h => h) (Or.inl ⟨by kernel_rfl, ?_⟩) hHeld ?_
                  rotate_left
                  · (intro w hSw; (try dsimp only at hSw); go_simp; try with_reducible rfl)
                  try simp only [Act.put, List.setIfInBounds_toArray, List.set_cons_zero, List.set_cons_succ]
                  refine wpAnyH_take (i := 1) (oi := ⟨some 49, _, _, _, _, _⟩) (v := ?_) rfl (by kernel_rfl) (by kernel_rfl) (by kernel_rfl) (fun _ _ _ h => h) (Or.inl ⟨by kernel_rfl, ?_⟩) hHeld ?_
                  rotate_left
                  · (intro w hSw; (try dsimp only at hSw); go_simp; try with_reducible rfl)
                  try simp only [Act.put, List.setIfInBounds_toArray, List.set_cons_zero, List.set_cons_succ]
                  refine wpAnyH_take (i := 2) (oi := ⟨some 50, _, _, _, _, _⟩) (v := ?_) rfl (by kernel_rfl) (by kernel_rfl) (by kernel_rfl) (fun _ _ _ h => h) (Or.inl ⟨by kernel_rfl, ?_⟩) hHeld ?_
                  rotate_left
                  · (intro w hSw; (try dsimp only at hSw); go_simp; try with_reducible rfl)
                  try simp only [Act.put, List.setIfInBounds_toArray, List.set_cons_zero, List.set_cons_succ]
                  refine wpAnyH_take (i := 5) (oi := ⟨some 53, _, _, _, _, _⟩) (v := ?_) rfl (by kernel_rfl) (by kernel_rfl) (by kernel_rfl) (fun _ _ _ h => h) (Or.inl ⟨by kernel_rfl, ?_⟩) hHeld ?_
                  rotate_left
                  · (intro w hSw; (try dsimp only at hSw); go_simp; try with_reducible rfl)
                  try simp only [Act.put, List.setIfInBounds_toArray, List.set_cons_zero, List.set_cons_succ]
                  refine wpAnyH_take (i := 6) (oi := ⟨some 54, _, _, _, _, _⟩) (v := ?_) rfl (by kernel_rfl) (by kernel_rfl) (by kernel_rfl) (fun _ _ _ h => h) (Or.inl ⟨by kernel_rfl, ?_⟩) hHeld ?_
                  rotate_left
                  · (intro w hSw; (try dsimp only at hSw); go_simp; try with_reducible rfl)
                  try simp only [Act.put, List.setIfInBounds_toArray, List.set_cons_zero, List.set_cons_succ]
                  refine wpAnyH_take (i := 7) (oi := ⟨some 55, _, _, _, _, _⟩) (v := ?_) rfl (by kernel_rfl) (by kernel_rfl) (by kernel_rfl) (fun _ _ _ h => h) (Or.inl ⟨by kernel_rfl, ?_⟩) hHeld ?_
                  rotate_left
                  · (intro w hSw; (try dsimp only at hSw); go_simp; try with_reducible rfl)
                  try simp only [Act.put, List.setIfInBounds_toArray, List.set_cons_zero, List.set_cons_succ]
                  refine wpAnyH_ready (rs := [3]) (by kernel_rfl) (by simp) ?_
                  refine AllReadyH.cons rfl (fun K hK => ?_) ?_
                  · go_simp
                    (go_at_call 24; refine (hhd.out _).mono ?_; rintro e w4 ⟨v4, rfl, o4, e4⟩; have k4 := conv_bytes o4.bytes)
                    go_wp2_with fail
                    clear hHeld
                    refine hK.out _ _ ?_ (fun hHeld => ?_)
                    · (refine hS.out _ ?_; (repeat (first | exact Ext.refl _ | with_reducible assumption | refine Ext.drew ?_ | refine Ext.alloc ?_ _ | refine Ext.trans ?_ (by assumption))))
                    clear hK K
                    try simp only [Act.put, List.setIfInBounds_toArray, List.set_cons_zero, List.set_cons_succ]
                    refine wpAnyH_ready (rs := [4]) (by kernel_rfl) (by simp) ?_
                    refine AllReadyH.cons rfl (fun K hK => ?_) ?_
                    · go_simp
                      clear hHeld
                      refine hK.out _ _ ?_ (fun hHeld => ?_)
                      · (refine hS.out _ ?_; (repeat (first | exact Ext.refl _ | with_reducible assumption | refine Ext.drew ?_ | refine Ext.alloc ?_ _ | refine Ext.trans ?_ (by assumption))))
                      clear hK K
                      try simp only [Act.put, List.setIfInBounds_toArray, List.set_cons_zero, List.set_cons_succ]
                      refine wpAnyH_take (i := 8) (oi := ⟨some 56, _, _, _, _, _⟩) (v := ?_) rfl (by kernel_rfl) (by kernel_rfl) (by kernel_rfl) (fun _ _ _ h => h) (Or.inl ⟨by kernel_rfl, ?_⟩) hHeld ?_
                      rotate_left
                      · (intro w hSw; (try dsimp only at hSw); go_simp; try with_reducible rfl)
                      try simp only [Act.put, List.setIfInBounds_toArray, List.set_cons_zero, List.set_cons_succ]
                      refine wpAnyH_take (i := 9) (oi := ⟨some 57, _, _, _, _, _⟩) (v := ?_) rfl (by kernel_rfl) (by kernel_rfl) (by kernel_rfl) (fun _ _ _ h => h) (Or.inl ⟨by kernel_rfl, ?_⟩) hHeld ?_
                      rotate_left
                      · (intro w hSw; (try dsimp only at hSw); go_simp; try with_reducible rfl)
                      try simp only [Act.put, List.setIfInBounds_toArray, List.set_cons_zero, List.set_cons_succ]
                      refine wpAnyH_take (i := 10) (oi := ⟨some 58, _, _, _, _, _⟩) (v := ?_) rfl (by kernel_rfl) (by kernel_rfl) (by kernel_rfl) (fun _ _ _ h => h) (Or.inl ⟨by kernel_rfl, ?_⟩) hHeld ?_
                      rotate_left
                      · (intro w hSw; (try dsimp only at hSw); go_simp; try with_reducible rfl)
                      try simp only [Act.put, List.setIfInBounds_toArray, List.set_cons_zero, List.set_cons_succ]
                      refine wpAnyH_take (i := 11) (oi := ⟨some 59, _, _, _, _, _⟩) (v := ?_) rfl (by kernel_rfl) (by kernel_rfl) (by kernel_rfl) (fun _ _ _ h => h) (Or.inl ⟨by kernel_rfl, ?_⟩) hHeld ?_
                      rotate_left
                      · (intro w hSw; (try dsimp only at hSw); go_simp; try with_reducible rfl)
                      try simp only [Act.put, List.setIfInBounds_toArray, List.set_cons_zero, List.set_cons_succ]
                      refine wpAnyH_take (i := 12) (oi := ⟨some 60, _, _, _, _, _⟩) (v := ?_) rfl (by kernel_rfl) (by kernel_rfl) (by kernel_rfl) (fun _ _ _ h => h) (Or.inl ⟨by kernel_rfl, ?_⟩) hHeld ?_
                      rotate_left
                      · (intro w hSw; (try dsimp only at hSw); go_simp; try with_reducible rfl)
                      try simp only [Act.put, List.setIfInBounds_toArray, List.set_cons_zero, List.set_cons_succ]
                      refine wpAnyH_take (i := 13) (oi := ⟨some 61, _, _, _, _, _⟩) (v := ?_) rfl (by kernel_rfl) (by kernel_rfl) (by kernel_rfl) (fun _ _ _ h => h) (Or.inl ⟨by kernel_rfl, ?_⟩) hHeld ?_
                      rotate_left
                      · (intro w hSw; (try dsimp only at hSw); go_simp; try with_reducible rfl)
                      try simp only [Act.put, List.setIfInBounds_toArray, List.set_cons_zero, List.set_cons_succ]
                      refine wpAnyH_take (i := 14) (oi := ⟨some 62, _, _, _, _, _⟩) (v := ?_) rfl (by kernel_rfl) (by kernel_rfl) (by kernel_rfl) (fun _ _ _ h => h) (Or.inl ⟨by kernel_rfl, ?_⟩) hHeld ?_
                      rotate_left
                      · (intro w hSw; (try dsimp only at hSw); go_simp; try with_reducible rfl)
                      try simp only [Act.put, List.setIfInBounds_toArray, List.set_cons_zero, List.set_cons_succ]
                      refine wpAnyH_take (i := 15) (oi := ⟨some 63, _, _, _, _, _⟩) (v := ?_) rfl (by kernel_rfl) (by kernel_rfl) (by kernel_rfl) (fun _ _ _ h => h) (Or.inl ⟨by kernel_rfl, ?_⟩) hHeld ?_
                      rotate_left
                      · (intro w hSw; (try dsimp only at hSw); go_simp; try with_reducible rfl)
                      try simp only [Act.put, List.setIfInBounds_toArray, List.set_cons_zero, List.set_cons_succ]
                      refine wpAnyH_take (i := 16) (oi := ⟨some 64, _, _, _, _, _⟩) (v := ?_) rfl (by kernel_rfl) (by kernel_rfl) (by kernel_rfl) (fun _ _ _ h => h) (Or.inl ⟨by kernel_rfl, ?_⟩) hHeld ?_
                      rotate_left
                      · (intro w hSw; (try dsimp only at hSw); go_simp; try with_reducible rfl)
                      try simp only [Act.put, List.setIfInBounds_toArray, List.set_cons_zero, List.set_cons_succ]
                      refine wpAnyH_take (i := 17) (oi := ⟨some 65, _, _, _, _, _⟩) (v := ?_) rfl (by kernel_rfl) (by kernel_rfl) (by kernel_rfl) (fun _ _ _ h => h) (Or.inl ⟨by kernel_rfl, ?_⟩) hHeld ?_
                      rotate_left
                      · (intro w hSw; (try dsimp only at hSw); go_simp; try with_reducible rfl)
                      try simp only [Act.put, List.setIfInBounds_toArray, List.set_cons_zero, List.set_cons_succ]
                      refine wpAnyH_ready (rs := [18]) (by kernel_rfl) (by simp) ?_
                      refine AllReadyH.cons rfl (fun K hK => ?_) ?_
                      · go_simp
                        (go_at_call 60; refine (hsz.out _ (by (repeat (first | exact Ext.refl _ | with_reducible assumption | refine Ext.drew ?_ | refine Ext.alloc ?_ _ | refine Ext.trans ?_ (by assumption))))).mono ?_; rintro e w6 ⟨rfl, rfl⟩)
                        go_wp2_with fail
                        clear hHeld
                        refine hK.out _ _ ?_ (fun hHeld => ?_)
                        · (refine hS.out _ ?_; (repeat (first | exact Ext.refl _ | with_reducible assumption | refine Ext.drew ?_ | refine Ext.alloc ?_ _ | refine Ext.trans ?_ (by assumption))))
                        clear hK K
                        try simp only [Act.put, List.setIfInBounds_toArray, List.set_cons_zero, List.set_cons_succ]
                        refine wpAnyH_take (i := 19) (oi := ⟨some 67, _, _, _, _, _⟩) (v := ?_) rfl (by kernel_rfl) (by kernel_rfl) (by kernel_rfl) (fun _ _ _ h => h) (Or.inl ⟨by kernel_rfl, ?_⟩) hHeld ?_
                        rotate_left
                        · (intro w hSw; (try dsimp only at hSw); go_simp; try with_reducible rfl)
                        try simp only [Act.put, List.setIfInBounds_toArray, List.set_cons_zero, List.set_cons_succ]
                        refine wpAnyH_take (i := 20) (oi := ⟨some 68, _, _, _, _, _⟩) (v := ?_) rfl (by kernel_rfl) (by kernel_rfl) (by kernel_rfl) (fun _ _ _ h => h) (Or.inl ⟨by kernel_rfl, ?_⟩) hHeld ?_
                        rotate_left
                        · (intro w hSw; (try dsimp only at hSw); go_simp; try with_reducible rfl)
                        try simp only [Act.put, List.setIfInBounds_toArray, List.set_cons_zero, List.set_cons_succ]
                        refine wpAnyH_take (i := 21) (oi := ⟨some 69, _, _, _, _, _⟩) (v := ?_) rfl (by kernel_rfl) (by kernel_rfl) (by kernel_rfl) (fun _ _ _ h => h) (Or.inl ⟨by kernel_rfl, ?_⟩) hHeld ?_
                        rotate_left
                        · (intro w hSw; (try dsimp only at hSw); go_simp; try with_reducible rfl)
                        try simp only [Act.put, List.setIfInBounds_toArray, List.set_cons_zero, List.set_cons_succ]
                        refine wpAnyH_take (i := 22) (oi := ⟨some 70, _, _, _, _, _⟩) (v := ?_) rfl (by kernel_rfl) (by kernel_rfl) (by kernel_rfl) (fun _ _ _ h => h) (Or.inl ⟨by kernel_rfl, ?_⟩) hHeld ?_
                        rotate_left
                        · (intro w hSw; (try dsimp only at hSw); go_simp; try with_reducible rfl)
                        try simp only [Act.put, List.setIfInBounds_toArray, List.set_cons_zero, List.set_cons_succ]
                        refine wpAnyH_take (i := 23) (oi := ⟨some 71, _, _, _, _, _⟩) (v := ?_) rfl (by kernel_rfl) (by kernel_rfl) (by kernel_rfl) (fun _ _ _ h => h) (Or.inl ⟨by kernel_rfl, ?_⟩) hHeld ?_
                        rotate_left
                        · (intro w hSw; (try dsimp only at hSw); go_simp; try with_reducible rfl)
                        try simp only [Act.put, List.setIfInBounds_toArray, List.set_cons_zero, List.set_cons_succ]
                        refine wpAnyH_take (i := 24) (oi := ⟨some 72, _, _, _, _, _⟩) (v := ?_) rfl (by kernel_rfl) (by kernel_rfl) (by kernel_rfl) (fun _ _ _ h => h) (Or.inl ⟨by kernel_rfl, ?_⟩) hHeld ?_
                        rotate_left
                        · (intro w hSw; (try dsimp only at hSw); go_simp; try with_reducible rfl)
                        try simp only [Act.put, List.setIfInBounds_toArray, List.set_cons_zero, List.set_cons_succ]
                        refine wpAnyH_take (i := 25) (oi := ⟨some 73, _, _, _, _, _⟩) (v := ?_) rfl (by kernel_rfl) (by kernel_rfl) (by kernel_rfl) (fun _ _ _ h => h) (Or.inl ⟨by kernel_rfl, ?_⟩) hHeld ?_
                        rotate_left
                        · (intro w hSw; (try dsimp only at hSw); go_simp; try with_reducible rfl)
                        try simp only [Act.put, List.setIfInBounds_toArray, List.set_cons_zero, List.set_cons_succ]
                        refine wpAnyH_take (i := 26) (oi := ⟨some 74, _, _, _, _, _⟩) (v := ?_) rfl (by kernel_rfl) (by kernel_rfl) (by kernel_rfl) (fun _ _ _ h => h) (Or.inl ⟨by kernel_rfl, ?_⟩) hHeld ?_
                        rotate_left
                        · (intro w hSw; (try dsimp only at hSw); go_simp; try with_reducible rfl)
                        try simp only [Act.put, List.setIfInBounds_toArray, List.set_cons_zero, List.set_cons_succ]
                        refine wpAnyH_take (i := 27) (oi := ⟨some 75, _, _, _, _, _⟩) (v := ?_) rfl (by kernel_rfl) (by kernel_rfl) (by kernel_rfl) (fun _ _ _ h => h) (Or.inl ⟨by kernel_rfl, ?_⟩) hHeld ?_
                        rotate_left
                        · (intro w hSw; (try dsimp only at hSw); go_simp; try with_reducible rfl)
                        try simp only [Act.put, List.setIfInBounds_toArray, List.set_cons_zero, List.set_cons_succ]
                        refine wpAnyH_take (i := 28) (oi := ⟨some 76, _, _, _, _, _⟩) (v := ?_) rfl (by kernel_rfl) (by kernel_rfl) (by kernel_rfl) (fun _ _ _ h => h) (Or.inl ⟨by kernel_rfl, ?_⟩) hHeld ?_
                        rotate_left
                        · (intro w hSw; (try dsimp only at hSw); go_simp; try with_reducible rfl)
                        try simp only [Act.put, List.setIfInBounds_toArray, List.set_cons_zero, List.set_cons_succ]
                        refine wpAnyH_done (by kernel_rfl) ?_ _
                        have ef : Ext w1 w4 := by (repeat (first | exact Ext.refl _ | with_reducible assumption | refine Ext.drew ?_ | refine Ext.alloc ?_ _ | refine Ext.trans ?_ (by assumption)))
                        clear k4 o4 hHeld
                        have l4 := hl.out.ext ef
                        have l5 := l4.set1 (n := G)
                        have l6 := l5.set2 (n := A)
                        have l7 := l6.set3 (n := U)
                        have ew := ((((hekh.out.trans ef).cellSet hqh.out 1 (.int .i64 (G : Int))).cellSet hqh.out 2 (.int .i64 (A : Int))).cellSet hqh.out 3 (.int .i64 (U : Int)))
                        obtain ⟨-, c1, c2, c3, -⟩ := l4.cells
                        have f1 := l4.free 1
                        have f2 := l4.free 2
                        have f3 := l4.free 3
                        go_wp2
                        go_roundw
                        case rel => exact ⟨k + 1, by omega, by go_num, Lib.hid (by rw [hk1h.out, hst2.out]; exact l7), ew⟩
                        case measure => simp [intOf]; omega
                      exact AllReadyH.nil
                    exact AllReadyH.nil
                  exact AllReadyH.nil
                  -- END GE
                · have q4 : decide (hk0.gen ≤ G) = false := decide_eq_false hge
                  have hst2 := Lib.hid (show hk1 = hk0 from by rw [hsth.out, hih.out, q4]; rfl)
                  clear hsth hih hge hU hP q1b q2b hEq
                  -- BEGIN NOGE
                  refine wp_region_held_drew (S := (fun W => Ext w1 W ∧ W.cell? ⟨q, 1, none⟩ = some (.int .i64 (hk0.gen : Int)) ∧ (convert 22 9 (.slice (some ⟨g, o, none⟩) 8 cp)).run Tryd.prog W = .ok (.string (str (b.take 8))) W)) (by kernel_rfl) ?_ (fun hHeld => ?_)
                  · (refine hS.out _ ?_; (repeat (first | exact Ext.refl _ | with_reducible assumption | refine Ext.drew ?_ | refine Ext.alloc ?_ _ | refine Ext.trans ?_ (by assumption))))
                  refine wpAnyH_take (i := 0) (oi := ⟨some 48, _, _, _, _, _⟩) (v := ?_) rfl (by kernel_rfl) (by kernel_rfl) (by kernel_rfl) (fun _ _ _ h => h) (Or.inl ⟨by kernel_rfl, ?_⟩) hHeld ?_
                  rotate_left
                  · (intro w hSw; (try dsimp only at hSw); go_simp; try with_reducible rfl)
                  try simp only [Act.put, List.setIfInBounds_toArray, List.set_cons_zero, List.set_cons_succ]
                  refine wpAnyH_take (i := 1) (oi := ⟨some 49, _, _, _, _, _⟩) (v := ?_) rfl (by kernel_rfl) (by kernel_rfl) (by kernel_rfl) (fun _ _ _ h => h) (Or.inl ⟨by kernel_rfl, ?_⟩) hHeld ?_
                  rotate_left
                  · (intro w hSw; (try dsimp only at hSw); go_simp; try with_reducible rfl)
                  try simp only [Act.put, List.setIfInBounds_toArray, List.set_cons_zero, List.set_cons_succ]
                  refine wpAnyH_take (i := 2) (oi := ⟨some 50, _, _, _, _, _⟩) (v := ?_) rfl (by kernel_rfl) (by kernel_rfl) (by kernel_rfl) (fun _ _ _ h => h) (Or.inl ⟨by kernel_rfl, ?_⟩) hHeld ?_
                  rotate_left
                  · (intro w hSw; (try dsimp only at hSw); go_simp; try with_reducible rfl)
                  try simp only [Act.put, List.setIfInBounds_toArray, List.set_cons_zero, List.set_cons_succ]
                  refine wpAnyH_take (i := 5) (oi := ⟨some 53, _, _, _, _, _⟩) (v := ?_) rfl (by kernel_rfl) (by kernel_rfl) (by kernel_rfl) (fun _ _ _ h => h) (Or.inl ⟨by kernel_rfl, ?_⟩) hHeld ?_
                  rotate_left
                  · (intro w hSw; (try dsimp only at hSw); go_simp; try with_reducible rfl)
                  try simp only [Act.put, List.setIfInBounds_toArray, List.set_cons_zero, List.set_cons_succ]
                  refine wpAnyH_take (i := 6) (oi := ⟨some 54, _, _, _, _, _⟩) (v := ?_) rfl (by kernel_rfl) (by kernel_rfl) (by kernel_rfl) (fun _ _ _ h => h) (Or.inl ⟨by kernel_rfl, ?_⟩) hHeld ?_
                  rotate_left
                  · (intro w hSw; (try dsimp only at hSw); go_simp; try with_reducible rfl)
                  try simp only [Act.put, List.setIfInBounds_toArray, List.set_cons_zero, List.set_cons_succ]
                  refine wpAnyH_take (i := 7) (oi := ⟨some 55, _, _, _, _, _⟩) (v := ?_) rfl (by kernel_rfl) (by kernel_rfl) (by kernel_rfl) (fun _ _ _ h => h) (Or.inl ⟨by kernel_rfl, ?_⟩) hHeld ?_
                  rotate_left
                  · (intro w hSw; (try dsimp only at hSw); go_simp; try with_reducible rfl)
                  try simp only [Act.put, List.setIfInBounds_toArray, List.set_cons_zero, List.set_cons_succ]
                  refine wpAnyH_ready (rs := [3]) (by kernel_rfl) (by simp) ?_
                  refine AllReadyH.cons rfl (fun K hK => ?_) ?_
                  · go_simp
                    (go_at_call 24; refine (hhd.out _).mono ?_; rintro e w4 ⟨v4, rfl, o4, e4⟩; have k4 := conv_bytes o4.bytes)
                    go_wp2_with fail
                    clear hHeld
                    refine hK.out _ _ ?_ (fun hHeld => ?_)
                    · (refine hS.out _ ?_; (repeat (first | exact Ext.refl _ | with_reducible assumption | refine Ext.drew ?_ | refine Ext.alloc ?_ _ | refine Ext.trans ?_ (by assumption))))
                    clear hK K
                    try simp only [Act.put, List.setIfInBounds_toArray, List.set_cons_zero, List.set_cons_succ]
                    refine wpAnyH_ready (rs := [4]) (by kernel_rfl) (by simp) ?_
                    refine AllReadyH.cons rfl (fun K hK => ?_) ?_
                    · go_simp
                      clear hHeld
                      refine hK.out _ _ ?_ (fun hHeld => ?_)
                      · (refine hS.out _ ?_; (repeat (first | exact Ext.refl _ | with_reducible assumption | refine Ext.drew ?_ | refine Ext.alloc ?_ _ | refine Ext.trans ?_ (by assumption))))
                      clear hK K
                      try simp only [Act.put, List.setIfInBounds_toArray, List.set_cons_zero, List.set_cons_succ]
                      refine wpAnyH_take (i := 8) (oi := ⟨some 56, _, _, _, _, _⟩) (v := ?_) rfl (by kernel_rfl) (by kernel_rfl) (by kernel_rfl) (fun _ _ _ h => h) (Or.inl ⟨by kernel_rfl, ?_⟩) hHeld ?_
                      rotate_left
                      · (intro w hSw; (try dsimp only at hSw); go_simp; try with_reducible rfl)
                      try simp only [Act.put, List.setIfInBounds_toArray, List.set_cons_zero, List.set_cons_succ]
                      refine wpAnyH_take (i := 9) (oi := ⟨some 57, _, _, _, _, _⟩) (v := ?_) rfl (by kernel_rfl) (by kernel_rfl) (by kernel_rfl) (fun _ _ _ h => h) (Or.inl ⟨by kernel_rfl, ?_⟩) hHeld ?_
                      rotate_left
                      · (intro w hSw; (try dsimp only at hSw); go_simp; try with_reducible rfl)
                      try simp only [Act.put, List.setIfInBounds_toArray, List.set_cons_zero, List.set_cons_succ]
                      refine wpAnyH_take (i := 10) (oi := ⟨some 58, _, _, _, _, _⟩) (v := ?_) rfl (by kernel_rfl) (by kernel_rfl) (by kernel_rfl) (fun _ _ _ h => h) (Or.inl ⟨by kernel_rfl, ?_⟩) hHeld ?_
                      rotate_left
                      · (intro w hSw; (try dsimp only at hSw); go_simp; try with_reducible rfl)
                      try simp only [Act.put, List.setIfInBounds_toArray, List.set_cons_zero, List.set_cons_succ]
                      refine wpAnyH_take (i := 11) (oi := ⟨some 59, _, _, _, _, _⟩) (v := ?_) rfl (by kernel_rfl) (by kernel_rfl) (by kernel_rfl) (fun _ _ _ h => h) (Or.inl ⟨by kernel_rfl, ?_⟩) hHeld ?_
                      rotate_left
                      · (intro w hSw; (try dsimp only at hSw); go_simp; try with_reducible rfl)
                      try simp only [Act.put, List.setIfInBounds_toArray, List.set_cons_zero, List.set_cons_succ]
                      refine wpAnyH_take (i := 12) (oi := ⟨some 60, _, _, _, _, _⟩) (v := ?_) rfl (by kernel_rfl) (by kernel_rfl) (by kernel_rfl) (fun _ _ _ h => h) (Or.inl ⟨by kernel_rfl, ?_⟩) hHeld ?_
                      rotate_left
                      · (intro w hSw; (try dsimp only at hSw); go_simp; try with_reducible rfl)
                      try simp only [Act.put, List.setIfInBounds_toArray, List.set_cons_zero, List.set_cons_succ]
                      refine wpAnyH_take (i := 13) (oi := ⟨some 61, _, _, _, _, _⟩) (v := ?_) rfl (by kernel_rfl) (by kernel_rfl) (by kernel_rfl) (fun _ _ _ h => h) (Or.inl ⟨by kernel_rfl, ?_⟩) hHeld ?_
                      rotate_left
                      · (intro w hSw; (try dsimp only at hSw); go_simp; try with_reducible rfl)
                      try simp only [Act.put, List.setIfInBounds_toArray, List.set_cons_zero, List.set_cons_succ]
                      refine wpAnyH_take (i := 14) (oi := ⟨some 62, _, _, _, _, _⟩) (v := ?_) rfl (by kernel_rfl) (by kernel_rfl) (by kernel_rfl) (fun _ _ _ h => h) (Or.inl ⟨by kernel_rfl, ?_⟩) hHeld ?_
                      rotate_left
                      · (intro w hSw; (try dsimp only at hSw); go_simp; try with_reducible rfl)
                      try simp only [Act.put, List.setIfInBounds_toArray, List.set_cons_zero, List.set_cons_succ]
                      refine wpAnyH_take (i := 15) (oi := ⟨some 63, _, _, _, _, _⟩) (v := ?_) rfl (by kernel_rfl) (by kernel_rfl) (by kernel_rfl) (fun _ _ _ h => h) (Or.inl ⟨by kernel_rfl, ?_⟩) hHeld ?_
                      rotate_left
                      · (intro w hSw; (try dsimp only at hSw); go_simp; try with_reducible rfl)
                      try simp only [Act.put, List.setIfInBounds_toArray, List.set_cons_zero, List.set_cons_succ]
                      refine wpAnyH_take (i := 16) (oi := ⟨some 64, _, _, _, _, _⟩) (v := ?_) rfl (by kernel_rfl) (by kernel_rfl) (by kernel_rfl) (fun _ _ _ h => h) (Or.inl ⟨by kernel_rfl, ?_⟩) hHeld ?_
                      rotate_left
                      · (intro w hSw; (try dsimp only at hSw); go_simp; try with_reducible rfl)
                      try simp only [Act.put, List.setIfInBounds_toArray, List.set_cons_zero, List.set_cons_succ]
                      refine wpAnyH_take (i := 17) (oi := ⟨some 65, _, _, _, _, _⟩) (v := ?_) rfl (by kernel_rfl) (by kernel_rfl) (by kernel_rfl) (fun _ _ _ h => h) (Or.inl ⟨by kernel_rfl, ?_⟩) hHeld ?_
                      rotate_left
                      · (intro w hSw; (try dsimp only at hSw); go_simp; try with_reducible rfl)
                      try simp only [Act.put, List.setIfInBounds_toArray, List.set_cons_zero, List.set_cons_succ]
                      refine wpAnyH_ready (rs := [18]) (by kernel_rfl) (by simp) ?_
                      refine AllReadyH.cons rfl (fun K hK => ?_) ?_
                      · go_simp
                        (go_at_call 60; refine (hsz.out _ (by (repeat (first | exact Ext.refl _ | with_reducible assumption | refine Ext.drew ?_ | refine Ext.alloc ?_ _ | refine Ext.trans ?_ (by assumption))))).mono ?_; rintro e w6 ⟨rfl, rfl⟩)
                        go_wp2_with fail
                        clear hHeld
                        refine hK.out _ _ ?_ (fun hHeld => ?_)
                        · (refine hS.out _ ?_; (repeat (first | exact Ext.refl _ | with_reducible assumption | refine Ext.drew ?_ | refine Ext.alloc ?_ _ | refine Ext.trans ?_ (by assumption))))
                        clear hK K
                        try simp only [Act.put, List.setIfInBounds_toArray, List.set_cons_zero, List.set_cons_succ]
                        refine wpAnyH_take (i := 19) (oi := ⟨some 67, _, _, _, _, _⟩) (v := ?_) rfl (by kernel_rfl) (by kernel_rfl) (by kernel_rfl) (fun _ _ _ h => h) (Or.inl ⟨by kernel_rfl, ?_⟩) hHeld ?_
                        rotate_left
                        · (intro w hSw; (try dsimp only at hSw); go_simp; try with_reducible rfl)
                        try simp only [Act.put, List.setIfInBounds_toArray, List.set_cons_zero, List.set_cons_succ]
                        refine wpAnyH_take (i := 20) (oi := ⟨some 68, _, _, _, _, _⟩) (v := ?_) rfl (by kernel_rfl) (by kernel_rfl) (by kernel_rfl) (fun _ _ _ h => h) (Or.inl ⟨by kernel_rfl, ?_⟩) hHeld ?_
                        rotate_left
                        · (intro w hSw; (try dsimp only at hSw); go_simp; try with_reducible rfl)
                        try simp only [Act.put, List.setIfInBounds_toArray, List.set_cons_zero, List.set_cons_succ]
                        refine wpAnyH_take (i := 21) (oi := ⟨some 69, _, _, _, _, _⟩) (v := ?_) rfl (by kernel_rfl) (by kernel_rfl) (by kernel_rfl) (fun _ _ _ h => h) (Or.inl ⟨by kernel_rfl, ?_⟩) hHeld ?_
                        rotate_left
                        · (intro w hSw; (try dsimp only at hSw); go_simp; try with_reducible rfl)
                        try simp only [Act.put, List.setIfInBounds_toArray, List.set_cons_zero, List.set_cons_succ]
                        refine wpAnyH_take (i := 22) (oi := ⟨some 70, _, _, _, _, _⟩) (v := ?_) rfl (by kernel_rfl) (by kernel_rfl) (by kernel_rfl) (fun _ _ _ h => h) (Or.inl ⟨by kernel_rfl, ?_⟩) hHeld ?_
                        rotate_left
                        · (intro w hSw; (try dsimp only at hSw); go_simp; try with_reducible rfl)
                        try simp only [Act.put, List.setIfInBounds_toArray, List.set_cons_zero, List.set_cons_succ]
                        refine wpAnyH_take (i := 23) (oi := ⟨some 71, _, _, _, _, _⟩) (v := ?_) rfl (by kernel_rfl) (by kernel_rfl) (by kernel_rfl) (fun _ _ _ h => h) (Or.inl ⟨by kernel_rfl, ?_⟩) hHeld ?_
                        rotate_left
                        · (intro w hSw; (try dsimp only at hSw); go_simp; try with_reducible rfl)
                        try simp only [Act.put, List.setIfInBounds_toArray, List.set_cons_zero, List.set_cons_succ]
                        refine wpAnyH_take (i := 24) (oi := ⟨some 72, _, _, _, _, _⟩) (v := ?_) rfl (by kernel_rfl) (by kernel_rfl) (by kernel_rfl) (fun _ _ _ h => h) (Or.inl ⟨by kernel_rfl, ?_⟩) hHeld ?_
                        rotate_left
                        · (intro w hSw; (try dsimp only at hSw); go_simp; try with_reducible rfl)
                        try simp only [Act.put, List.setIfInBounds_toArray, List.set_cons_zero, List.set_cons_succ]
                        refine wpAnyH_take (i := 25) (oi := ⟨some 73, _, _, _, _, _⟩) (v := ?_) rfl (by kernel_rfl) (by kernel_rfl) (by kernel_rfl) (fun _ _ _ h => h) (Or.inl ⟨by kernel_rfl, ?_⟩) hHeld ?_
                        rotate_left
                        · (intro w hSw; (try dsimp only at hSw); go_simp; try with_reducible rfl)
                        try simp only [Act.put, List.setIfInBounds_toArray, List.set_cons_zero, List.set_cons_succ]
                        refine wpAnyH_take (i := 26) (oi := ⟨some 74, _, _, _, _, _⟩) (v := ?_) rfl (by kernel_rfl) (by kernel_rfl) (by kernel_rfl) (fun _ _ _ h => h) (Or.inl ⟨by kernel_rfl, ?_⟩) hHeld ?_
                        rotate_left
                        · (intro w hSw; (try dsimp only at hSw); go_simp; try with_reducible rfl)
                        try simp only [Act.put, List.setIfInBounds_toArray, List.set_cons_zero, List.set_cons_succ]
                        refine wpAnyH_take (i := 27) (oi := ⟨some 75, _, _, _, _, _⟩) (v := ?_) rfl (by kernel_rfl) (by kernel_rfl) (by kernel_rfl) (fun _ _ _ h => h) (Or.inl ⟨by kernel_rfl, ?_⟩) hHeld ?_
                        rotate_left
                        · (intro w hSw; (try dsimp only at hSw); go_simp; try with_reducible rfl)
                        try simp only [Act.put, List.setIfInBounds_toArray, List.set_cons_zero, List.set_cons_succ]
                        refine wpAnyH_take (i := 28) (oi := ⟨some 76, _, _, _, _, _⟩) (v := ?_) rfl (by kernel_rfl) (by kernel_rfl) (by kernel_rfl) (fun _ _ _ h => h) (Or.inl ⟨by kernel_rfl, ?_⟩) hHeld ?_
                        rotate_left
                        · (intro w hSw; (try dsimp only at hSw); go_simp; try with_reducible rfl)
                        try simp only [Act.put, List.setIfInBounds_toArray, List.set_cons_zero, List.set_cons_succ]
                        refine wpAnyH_done (by kernel_rfl) ?_ _
                        have ef : Ext w1 w4 := by (repeat (first | exact Ext.refl _ | with_reducible assumption | refine Ext.drew ?_ | refine Ext.alloc ?_ _ | refine Ext.trans ?_ (by assumption)))
                        clear k4 o4 hHeld
                        go_wp2
                        go_roundw
                        case rel => exact ⟨k + 1, by omega, by go_num, Lib.hid (by rw [hk1h.out, hst2.out]; exact hl.out.ext ef), hekh.out.trans ef⟩
                        case measure => simp [intOf]; omega
                      exact AllReadyH.nil
                    exact AllReadyH.nil
                  exact AllReadyH.nil
                  -- END NOGE
              · have q3 : decide (U ≤ M) = false := decide_eq_false hU
                rw [q3] at hih
                have hst2 := Lib.hid (show hk1 = hk0 from by rw [hsth.out, hih.out]; rfl)
                clear hsth hih hU hP q1b q2b hEq
                -- BEGIN NOROOM
                refine wp_region_held_drew (S := (fun W => Ext w1 W ∧ W.cell? ⟨q, 1, none⟩ = some (.int .i64 (hk0.gen : Int)) ∧ (convert 22 9 (.slice (some ⟨g, o, none⟩) 8 cp)).run Tryd.prog W = .ok (.string (str (b.take 8))) W)) (by kernel_rfl) ?_ (fun hHeld => ?_)
                · (refine hS.out _ ?_; (repeat (first | exact Ext.refl _ | with_reducible assumption | refine Ext.drew ?_ | refine Ext.alloc ?_ _ | refine Ext.trans ?_ (by assumption))))
                refine wpAnyH_take (i := 0) (oi := ⟨some 48, _, _, _, _, _⟩) (v := ?_) rfl (by kernel_rfl) (by kernel_rfl) (by kernel_rfl) (fun _ _ _ h => h) (Or.inl ⟨by kernel_rfl, ?_⟩) hHeld ?_
                rotate_left
                · (intro w hSw; (try dsimp only at hSw); go_simp; try with_reducible rfl)
                try simp only [Act.put, List.setIfInBounds_toArray, List.set_cons_zero, List.set_cons_succ]
                refine wpAnyH_take (i := 1) (oi := ⟨some 49, _, _, _, _, _⟩) (v := ?_) rfl (by kernel_rfl) (by kernel_rfl) (by kernel_rfl) (fun _ _ _ h => h) (Or.inl ⟨by kernel_rfl, ?_⟩) hHeld ?_
                rotate_left
                · (intro w hSw; (try dsimp only at hSw); go_simp; try with_reducible rfl)
                try simp only [Act.put, List.setIfInBounds_toArray, List.set_cons_zero, List.set_cons_succ]
                refine wpAnyH_take (i := 2) (oi := ⟨some 50, _, _, _, _, _⟩) (v := ?_) rfl (by kernel_rfl) (by kernel_rfl) (by kernel_rfl) (fun _ _ _ h => h) (Or.inl ⟨by kernel_rfl, ?_⟩) hHeld ?_
                rotate_left
                · (intro w hSw; (try dsimp only at hSw); go_simp; try with_reducible rfl)
                try simp only [Act.put, List.setIfInBounds_toArray, List.set_cons_zero, List.set_cons_succ]
                refine wpAnyH_take (i := 5) (oi := ⟨some 53, _, _, _, _, _⟩) (v := ?_) rfl (by kernel_rfl) (by kernel_rfl) (by kernel_rfl) (fun _ _ _ h => h) (Or.inl ⟨by kernel_rfl, ?_⟩) hHeld ?_
                rotate_left
                · (intro w hSw; (try dsimp only at hSw); go_simp; try with_reducible rfl)
                try simp only [Act.put, List.setIfInBounds_toArray, List.set_cons_zero, List.set_cons_succ]
                refine wpAnyH_take (i := 6) (oi := ⟨some 54, _, _, _, _, _⟩) (v := ?_) rfl (by kernel_rfl) (by kernel_rfl) (by kernel_rfl) (fun _ _ _ h => h) (Or.inl ⟨by kernel_rfl, ?_⟩) hHeld ?_
                rotate_left
                · (intro w hSw; (try dsimp only at hSw); go_simp; try with_reducible rfl)
                try simp only [Act.put, List.setIfInBounds_toArray, List.set_cons_zero, List.set_cons_succ]
                refine wpAnyH_take (i := 7) (oi := ⟨some 55, _, _, _, _, _⟩) (v := ?_) rfl (by kernel_rfl) (by kernel_rfl) (by kernel_rfl) (fun _ _ _ h => h) (Or.inl ⟨by kernel_rfl, ?_⟩) hHeld ?_
                rotate_left
                · (intro w hSw; (try dsimp only at hSw); go_simp; try with_reducible rfl)
                try simp only [Act.put, List.setIfInBounds_toArray, List.set_cons_zero, List.set_cons_succ]
                refine wpAnyH_ready (rs := [3]) (by kernel_rfl) (by simp) ?_
                refine AllReadyH.cons rfl (fun K hK => ?_) ?_
                · go_simp
                  (go_at_call 24; refine (hhd.out _).mono ?_; rintro e w4 ⟨v4, rfl, o4, e4⟩; have k4 := conv_bytes o4.bytes)
                  go_wp2_with fail
                  clear hHeld
                  refine hK.out _ _ ?_ (fun hHeld => ?_)
                  · (refine hS.out _ ?_; (repeat (first | exact Ext.refl _ | with_reducible assumption | refine Ext.drew ?_ | refine Ext.alloc ?_ _ | refine Ext.trans ?_ (by assumption))))
                  clear hK K
                  try simp only [Act.put, List.setIfInBounds_toArray, List.set_cons_zero, List.set_cons_succ]
                  refine wpAnyH_ready (rs := [4]) (by kernel_rfl) (by simp) ?_
                  refine AllReadyH.cons rfl (fun K hK => ?_) ?_
                  · go_simp
                    clear hHeld
                    refine hK.out _ _ ?_ (fun hHeld => ?_)
                    · (refine hS.out _ ?_; (repeat (first | exact Ext.refl _ | with_reducible assumption | refine Ext.drew ?_ | refine Ext.alloc ?_ _ | refine Ext.trans ?_ (by assumption))))
                    clear hK K
                    try simp only [Act.put, List.setIfInBounds_toArray, List.set_cons_zero, List.set_cons_succ]
                    refine wpAnyH_take (i := 8) (oi := ⟨some 56, _, _, _, _, _⟩) (v := ?_) rfl (by kernel_rfl) (by kernel_rfl) (by kernel_rfl) (fun _ _ _ h => h) (Or.inl ⟨by kernel_rfl, ?_⟩) hHeld ?_
                    rotate_left
                    · (intro w hSw; (try dsimp only at hSw); go_simp; try with_reducible rfl)
                    try simp only [Act.put, List.setIfInBounds_toArray, List.set_cons_zero, List.set_cons_succ]
                    refine wpAnyH_take (i := 9) (oi := ⟨some 57, _, _, _, _, _⟩) (v := ?_) rfl (by kernel_rfl) (by kernel_rfl) (by kernel_rfl) (fun _ _ _ h => h) (Or.inl ⟨by kernel_rfl, ?_⟩) hHeld ?_
                    rotate_left
                    · (intro w hSw; (try dsimp only at hSw); go_simp; try with_reducible rfl)
                    try simp only [Act.put, List.setIfInBounds_toArray, List.set_cons_zero, List.set_cons_succ]
                    refine wpAnyH_take (i := 10) (oi := ⟨some 58, _, _, _, _, _⟩) (v := ?_) rfl (by kernel_rfl) (by kernel_rfl) (by kernel_rfl) (fun _ _ _ h => h) (Or.inl ⟨by kernel_rfl, ?_⟩) hHeld ?_
                    rotate_left
                    · (intro w hSw; (try dsimp only at hSw); go_simp; try with_reducible rfl)
                    try simp only [Act.put, List.setIfInBounds_toArray, List.set_cons_zero, List.set_cons_succ]
                    refine wpAnyH_take (i := 11) (oi := ⟨some 59, _, _, _, _, _⟩) (v := ?_) rfl (by kernel_rfl) (by kernel_rfl) (by kernel_rfl) (fun _ _ _ h => h) (Or.inl ⟨by kernel_rfl, ?_⟩) hHeld ?_
                    rotate_left
                    · (intro w hSw; (try dsimp only at hSw); go_simp; try with_reducible rfl)
                    try simp only [Act.put, List.setIfInBounds_toArray, List.set_cons_zero, List.set_cons_succ]
                    refine wpAnyH_take (i := 12) (oi := ⟨some 60, _, _, _, _, _⟩) (v := ?_) rfl (by kernel_rfl) (by kernel_rfl) (by kernel_rfl) (fun _ _ _ h => h) (Or.inl ⟨by kernel_rfl, ?_⟩) hHeld ?_
                    rotate_left
                    · (intro w hSw; (try dsimp only at hSw); go_simp; try with_reducible rfl)
                    try simp only [Act.put, List.setIfInBounds_toArray, List.set_cons_zero, List.set_cons_succ]
                    refine wpAnyH_take (i := 13) (oi := ⟨some 61, _, _, _, _, _⟩) (v := ?_) rfl (by kernel_rfl) (by kernel_rfl) (by kernel_rfl) (fun _ _ _ h => h) (Or.inl ⟨by kernel_rfl, ?_⟩) hHeld ?_
                    rotate_left
                    · (intro w hSw; (try dsimp only at hSw); go_simp; try with_reducible rfl)
                    try simp only [Act.put, List.setIfInBounds_toArray, List.set_cons_zero, List.set_cons_succ]
                    refine wpAnyH_take (i := 14) (oi := ⟨some 62, _, _, _, _, _⟩) (v := ?_) rfl (by kernel_rfl) (by kernel_rfl) (by kernel_rfl) (fun _ _ _ h => h) (Or.inl ⟨by kernel_rfl, ?_⟩) hHeld ?_
                    rotate_left
                    · (intro w hSw; (try dsimp only at hSw); go_simp; try with_reducible rfl)
                    try simp only [Act.put, List.setIfInBounds_toArray, List.set_cons_zero, List.set_cons_succ]
                    refine wpAnyH_take (i := 15) (oi := ⟨some 63, _, _, _, _, _⟩) (v := ?_) rfl (by kernel_rfl) (by kernel_rfl) (by kernel_rfl) (fun _ _ _ h => h) (Or.inl ⟨by kernel_rfl, ?_⟩) hHeld ?_
                    rotate_left
                    · (intro w hSw; (try dsimp only at hSw); go_simp; try with_reducible rfl)
                    try simp only [Act.put, List.setIfInBounds_toArray, List.set_cons_zero, List.set_cons_succ]
                    refine wpAnyH_take (i := 16) (oi := ⟨some 64, _, _, _, _, _⟩) (v := ?_) rfl (by kernel_rfl) (by kernel_rfl) (by kernel_rfl) (fun _ _ _ h => h) (Or.inl ⟨by kernel_rfl, ?_⟩) hHeld ?_
                    rotate_left
                    · (intro w hSw; (try dsimp only at hSw); go_simp; try with_reducible rfl)
                    try simp only [Act.put, List.setIfInBounds_toArray, List.set_cons_zero, List.set_cons_succ]
                    refine wpAnyH_take (i := 17) (oi := ⟨some 65, _, _, _, _, _⟩) (v := ?_) rfl (by kernel_rfl) (by kernel_rfl) (by kernel_rfl) (fun _ _ _ h => h) (Or.inl ⟨by kernel_rfl, ?_⟩) hHeld ?_
                    rotate_left
                    · (intro w hSw; (try dsimp only at hSw); go_simp; try with_reducible rfl)
                    try simp only [Act.put, List.setIfInBounds_toArray, List.set_cons_zero, List.set_cons_succ]
                    refine wpAnyH_ready (rs := [18]) (by kernel_rfl) (by simp) ?_
                    refine AllReadyH.cons rfl (fun K hK => ?_) ?_
                    · go_simp
                      (go_at_call 60; refine (hsz.out _ (by (repeat (first | exact Ext.refl _ | with_reducible assumption | refine Ext.drew ?_ | refine Ext.alloc ?_ _ | refine Ext.trans ?_ (by assumption))))).mono ?_; rintro e w6 ⟨rfl, rfl⟩)
                      go_wp2_with fail
                      clear hHeld
                      refine hK.out _ _ ?_ (fun hHeld => ?_)
                      · (refine hS.out _ ?_; (repeat (first | exact Ext.refl _ | with_reducible assumption | refine Ext.drew ?_ | refine Ext.alloc ?_ _ | refine Ext.trans ?_ (by assumption))))
                      clear hK K
                      try simp only [Act.put, List.setIfInBounds_toArray, List.set_cons_zero, List.set_cons_succ]
                      refine wpAnyH_take (i := 19) (oi := ⟨some 67, _, _, _, _, _⟩) (v := ?_) rfl (by kernel_rfl) (by kernel_rfl) (by kernel_rfl) (fun _ _ _ h => h) (Or.inl ⟨by kernel_rfl, ?_⟩) hHeld ?_
                      rotate_left
                      · (intro w hSw; (try dsimp only at hSw); go_simp; try with_reducible rfl)
                      try simp only [Act.put, List.setIfInBounds_toArray, List.set_cons_zero, List.set_cons_succ]
                      refine wpAnyH_take (i := 20) (oi := ⟨some 68, _, _, _, _, _⟩) (v := ?_) rfl (by kernel_rfl) (by kernel_rfl) (by kernel_rfl) (fun _ _ _ h => h) (Or.inl ⟨by kernel_rfl, ?_⟩) hHeld ?_
                      rotate_left
                      · (intro w hSw; (try dsimp only at hSw); go_simp; try with_reducible rfl)
                      try simp only [Act.put, List.setIfInBounds_toArray, List.set_cons_zero, List.set_cons_succ]
                      refine wpAnyH_take (i := 21) (oi := ⟨some 69, _, _, _, _, _⟩) (v := ?_) rfl (by kernel_rfl) (by kernel_rfl) (by kernel_rfl) (fun _ _ _ h => h) (Or.inl ⟨by kernel_rfl, ?_⟩) hHeld ?_
                      rotate_left
                      · (intro w hSw; (try dsimp only at hSw); go_simp; try with_reducible rfl)
                      try simp only [Act.put, List.setIfInBounds_toArray, List.set_cons_zero, List.set_cons_succ]
                      refine wpAnyH_take (i := 22) (oi := ⟨some 70, _, _, _, _, _⟩) (v := undef) rfl (by kernel_rfl) (by kernel_rfl) (by kernel_rfl) (fun _ _ _ h => h) (Or.inr ⟨by kernel_rfl, rfl⟩) (by assumption) ?_
                      try simp only [Act.put, List.setIfInBounds_toArray, List.set_cons_zero, List.set_cons_succ]
                      refine wpAnyH_take (i := 23) (oi := ⟨some 71, _, _, _, _, _⟩) (v := undef) rfl (by kernel_rfl) (by kernel_rfl) (by kernel_rfl) (fun _ _ _ h => h) (Or.inr ⟨by kernel_rfl, rfl⟩) (by assumption) ?_
                      try simp only [Act.put, List.setIfInBounds_toArray, List.set_cons_zero, List.set_cons_succ]
                      refine wpAnyH_take (i := 24) (oi := ⟨some 72, _, _, _, _, _⟩) (v := undef) rfl (by kernel_rfl) (by kernel_rfl) (by kernel_rfl) (fun _ _ _ h => h) (Or.inr ⟨by kernel_rfl, rfl⟩) (by assumption) ?_
                      try simp only [Act.put, List.setIfInBounds_toArray, List.set_cons_zero, List.set_cons_succ]
                      refine wpAnyH_take (i := 25) (oi := ⟨some 73, _, _, _, _, _⟩) (v := undef) rfl (by kernel_rfl) (by kernel_rfl) (by kernel_rfl) (fun _ _ _ h => h) (Or.inr ⟨by kernel_rfl, rfl⟩) (by assumption) ?_
                      try simp only [Act.put, List.setIfInBounds_toArray, List.set_cons_zero, List.set_cons_succ]
                      refine wpAnyH_take (i := 26) (oi := ⟨some 74, _, _, _, _, _⟩) (v := undef) rfl (by kernel_rfl) (by kernel_rfl) (by kernel_rfl) (fun _ _ _ h => h) (Or.inr ⟨by kernel_rfl, rfl⟩) (by assumption) ?_
                      try simp only [Act.put, List.setIfInBounds_toArray, List.set_cons_zero, List.set_cons_succ]
                      refine wpAnyH_take (i := 27) (oi := ⟨some 75, _, _, _, _, _⟩) (v := undef) rfl (by kernel_rfl) (by kernel_rfl) (by kernel_rfl) (fun _ _ _ h => h) (Or.inr ⟨by kernel_rfl, rfl⟩) (by assumption) ?_
                      try simp only [Act.put, List.setIfInBounds_toArray, List.set_cons_zero, List.set_cons_succ]
                      refine wpAnyH_take (i := 28) (oi := ⟨some 76, _, _, _, _, _⟩) (v := ?_) rfl (by kernel_rfl) (by kernel_rfl) (by kernel_rfl) (fun _ _ _ h => h) (Or.inl ⟨by kernel_rfl, ?_⟩) hHeld ?_
                      rotate_left
                      · (intro w hSw; (try dsimp only at hSw); go_simp; try with_reducible rfl)
                      try simp only [Act.put, List.setIfInBounds_toArray, List.set_cons_zero, List.set_cons_succ]
                      refine wpAnyH_done (by kernel_rfl) ?_ _
                      have ef : Ext w1 w4 := by (repeat (first | exact Ext.refl _ | with_reducible assumption | refine Ext.drew ?_ | refine Ext.alloc ?_ _ | refine Ext.trans ?_ (by assumption)))
                      clear k4 o4 hHeld
                      go_wp2
                      go_roundw
                      case rel => exact ⟨k + 1, by omega, by go_num, Lib.hid (by rw [hk1h.out, hst2.out]; exact hl.out.ext ef), hekh.out.trans ef⟩
                      case measure => simp [intOf]; omega
                    exact AllReadyH.nil
                  exact AllReadyH.nil
                exact AllReadyH.nil
                -- END NOROOM
            · have q2 := par_no hP
              have q2b : (G % 2 == k) = false := by rw [beq_eq_false_iff_ne]; exact hP
              rw [q2b, Bool.false_and] at hih
              have hst2 := Lib.hid (show hk1 = hk0 from by rw [hsth.out, hih.out]; rfl)
              clear hsth hih hP q1b q2b hEq
              -- BEGIN NOPAR
              refine wp_region_held_drew (S := (fun W => Ext w1 W ∧ W.cell? ⟨q, 1, none⟩ = some (.int .i64 (hk0.gen : Int)) ∧ (convert 22 9 (.slice (some ⟨g, o, none⟩) 8 cp)).run Tryd.prog W = .ok (.string (str (b.take 8))) W)) (by kernel_rfl) ?_ (fun hHeld => ?_)
              · (refine hS.out _ ?_; (repeat (first | exact Ext.refl _ | with_reducible assumption | refine Ext.drew ?_ | refine Ext.alloc ?_ _ | refine Ext.trans ?_ (by assumption))))
              refine wpAnyH_take (i := 0) (oi := ⟨some 48, _, _, _, _, _⟩) (v := ?_) rfl (by kernel_rfl) (by kernel_rfl) (by kernel_rfl) (fun _ _ _ h => h) (Or.inl ⟨by kernel_rfl, ?_⟩) hHeld ?_
              rotate_left
              · (intro w hSw; (try dsimp only at hSw); go_simp; try with_reducible rfl)
              try simp only [Act.put, List.setIfInBounds_toArray, List.set_cons_zero, List.set_cons_succ]
              refine wpAnyH_take (i := 1) (oi := ⟨some 49, _, _, _, _, _⟩) (v := ?_) rfl (by kernel_rfl) (by kernel_rfl) (by kernel_rfl) (fun _ _ _ h => h) (Or.inl ⟨by kernel_rfl, ?_⟩) hHeld ?_
              rotate_left
              · (intro w hSw; (try dsimp only at hSw); go_simp; try with_reducible rfl)
              try simp only [Act.put, List.setIfInBounds_toArray, List.set_cons_zero, List.set_cons_succ]
              refine wpAnyH_take (i := 2) (oi := ⟨some 50, _, _, _, _, _⟩) (v := ?_) rfl (by kernel_rfl) (by kernel_rfl) (by kernel_rfl) (fun _ _ _ h => h) (Or.inl ⟨by kernel_rfl, ?_⟩) hHeld ?_
              rotate_left
              · (intro w hSw; (try dsimp only at hSw); go_simp; try with_reducible rfl)
              try simp only [Act.put, List.setIfInBounds_toArray, List.set_cons_zero, List.set_cons_succ]
              refine wpAnyH_take (i := 5) (oi := ⟨some 53, _, _, _, _, _⟩) (v := ?_) rfl (by kernel_rfl) (by kernel_rfl) (by kernel_rfl) (fun _ _ _ h => h) (Or.inl ⟨by kernel_rfl, ?_⟩) hHeld ?_
              rotate_left
              · (intro w hSw; (try dsimp only at hSw); go_simp; try with_reducible rfl)
              try simp only [Act.put, List.setIfInBounds_toArray, List.set_cons_zero, List.set_cons_succ]
              refine wpAnyH_take (i := 6) (oi := ⟨some 54, _, _, _, _, _⟩) (v := ?_) rfl (by kernel_rfl) (by kernel_rfl) (by kernel_rfl) (fun _ _ _ h => h) (Or.inl ⟨by kernel_rfl, ?_⟩) hHeld ?_
              rotate_left
              · (intro w hSw; (try dsimp only at hSw); go_simp; try with_reducible rfl)
              try simp only [Act.put, List.setIfInBounds_toArray, List.set_cons_zero, List.set_cons_succ]
              refine wpAnyH_take (i := 7) (oi := ⟨some 55, _, _, _, _, _⟩) (v := ?_) rfl (by kernel_rfl) (by kernel_rfl) (by kernel_rfl) (fun _ _ _ h => h) (Or.inl ⟨by kernel_rfl, ?_⟩) hHeld ?_
              rotate_left
              · (intro w hSw; (try dsimp only at hSw); go_simp; try with_reducible rfl)
              try simp only [Act.put, List.setIfInBounds_toArray, List.set_cons_zero, List.set_cons_succ]
              refine wpAnyH_ready (rs := [3]) (by kernel_rfl) (by simp) ?_
              refine AllReadyH.cons rfl (fun K hK => ?_) ?_
              · go_simp
                (go_at_call 24; refine (hhd.out _).mono ?_; rintro e w4 ⟨v4, rfl, o4, e4⟩; have k4 := conv_bytes o4.bytes)
                go_wp2_with fail
                clear hHeld
                refine hK.out _ _ ?_ (fun hHeld => ?_)
                · (refine hS.out _ ?_; (repeat (first | exact Ext.refl _ | with_reducible assumption | refine Ext.drew ?_ | refine Ext.alloc ?_ _ | refine Ext.trans ?_ (by assumption))))
                clear hK K
                try simp only [Act.put, List.setIfInBounds_toArray, List.set_cons_zero, List.set_cons_succ]
                refine wpAnyH_ready (rs := [4]) (by kernel_rfl) (by simp) ?_
                refine AllReadyH.cons rfl (fun K hK => ?_) ?_
                · go_simp
                  clear hHeld
                  refine hK.out _ _ ?_ (fun hHeld => ?_)
                  · (refine hS.out _ ?_; (repeat (first | exact Ext.refl _ | with_reducible assumption | refine Ext.drew ?_ | refine Ext.alloc ?_ _ | refine Ext.trans ?_ (by assumption))))
                  clear hK K
                  try simp only [Act.put, List.setIfInBounds_toArray, List.set_cons_zero, List.set_cons_succ]
                  refine wpAnyH_take (i := 8) (oi := ⟨some 56, _, _, _, _, _⟩) (v := ?_) rfl (by kernel_rfl) (by kernel_rfl) (by kernel_rfl) (fun _ _ _ h => h) (Or.inl ⟨by kernel_rfl, ?_⟩) hHeld ?_
                  rotate_left
                  · (intro w hSw; (try dsimp only at hSw); go_simp; try with_reducible rfl)
                  try simp only [Act.put, List.setIfInBounds_toArray, List.set_cons_zero, List.set_cons_succ]
                  refine wpAnyH_take (i := 9) (oi := ⟨some 57, _, _, _, _, _⟩) (v := ?_) rfl (by kernel_rfl) (by kernel_rfl) (by kernel_rfl) (fun _ _ _ h => h) (Or.inl ⟨by kernel_rfl, ?_⟩) hHeld ?_
                  rotate_left
                  · (intro w hSw; (try dsimp only at hSw); go_simp; try with_reducible rfl)
                  try simp only [Act.put, List.setIfInBounds_toArray, List.set_cons_zero, List.set_cons_succ]
                  refine wpAnyH_take (i := 10) (oi := ⟨some 58, _, _, _, _, _⟩) (v := ?_) rfl (by kernel_rfl) (by kernel_rfl) (by kernel_rfl) (fun _ _ _ h => h) (Or.inl ⟨by kernel_rfl, ?_⟩) hHeld ?_
                  rotate_left
                  · (intro w hSw; (try dsimp only at hSw); go_simp; try with_reducible rfl)
                  try simp only [Act.put, List.setIfInBounds_toArray, List.set_cons_zero, List.set_cons_succ]
                  refine wpAnyH_take (i := 11) (oi := ⟨some 59, _, _, _, _, _⟩) (v := ?_) rfl (by kernel_rfl) (by kernel_rfl) (by kernel_rfl) (fun _ _ _ h => h) (Or.inl ⟨by kernel_rfl, ?_⟩) hHeld ?_
                  rotate_left
                  · (intro w hSw; (try dsimp only at hSw); go_simp; try with_reducible rfl)
                  try simp only [Act.put, List.setIfInBounds_toArray, List.set_cons_zero, List.set_cons_succ]
                  refine wpAnyH_take (i := 12) (oi := ⟨some 60, _, _, _, _, _⟩) (v := ?_) rfl (by kernel_rfl) (by kernel_rfl) (by kernel_rfl) (fun _ _ _ h => h) (Or.inl ⟨by kernel_rfl, ?_⟩) hHeld ?_
                  rotate_left
                  · (intro w hSw; (try dsimp only at hSw); go_simp; try with_reducible rfl)
                  try simp only [Act.put, List.setIfInBounds_toArray, List.set_cons_zero, List.set_cons_succ]
                  refine wpAnyH_take (i := 13) (oi := ⟨some 61, _, _, _, _, _⟩) (v := ?_) rfl (by kernel_rfl) (by kernel_rfl) (by kernel_rfl) (fun _ _ _ h => h) (Or.inl ⟨by kernel_rfl, ?_⟩) hHeld ?_
                  rotate_left
                  · (intro w hSw; (try dsimp only at hSw); go_simp; try with_reducible rfl)
                  try simp only [Act.put, List.setIfInBounds_toArray, List.set_cons_zero, List.set_cons_succ]
                  refine wpAnyH_take (i := 14) (oi := ⟨some 62, _, _, _, _, _⟩) (v := ?_) rfl (by kernel_rfl) (by kernel_rfl) (by kernel_rfl) (fun _ _ _ h => h) (Or.inl ⟨by kernel_rfl, ?_⟩) hHeld ?_
                  rotate_left
                  · (intro w hSw; (try dsimp only at hSw); go_simp; try with_reducible rfl)
                  try simp only [Act.put, List.setIfInBounds_toArray, List.set_cons_zero, List.set_cons_succ]
                  refine wpAnyH_take (i := 15) (oi := ⟨some 63, _, _, _, _, _⟩) (v := ?_) rfl (by kernel_rfl) (by kernel_rfl) (by kernel_rfl) (fun _ _ _ h => h) (Or.inl ⟨by kernel_rfl, ?_⟩) hHeld ?_
                  rotate_left
                  · (intro w hSw; (try dsimp only at hSw); go_simp; try with_reducible rfl)
                  try simp only [Act.put, List.setIfInBounds_toArray, List.set_cons_zero, List.set_cons_succ]
                  refine wpAnyH_take (i := 16) (oi := ⟨some 64, _, _, _, _, _⟩) (v := undef) rfl (by kernel_rfl) (by kernel_rfl) (by kernel_rfl) (fun _ _ _ h => h) (Or.inr ⟨by kernel_rfl, rfl⟩) (by assumption) ?_
                  try simp only [Act.put, List.setIfInBounds_toArray, List.set_cons_zero, List.set_cons_succ]
                  refine wpAnyH_take (i := 17) (oi := ⟨some 65, _, _, _, _, _⟩) (v := undef) rfl (by kernel_rfl) (by kernel_rfl) (by kernel_rfl) (fun _ _ _ h => h) (Or.inr ⟨by kernel_rfl, rfl⟩) (by assumption) ?_
                  try simp only [Act.put, List.setIfInBounds_toArray, List.set_cons_zero, List.set_cons_succ]
                  refine wpAnyH_take (i := 18) (oi := ⟨some 66, _, _, _, _, _⟩) (v := undef) rfl (by kernel_rfl) (by kernel_rfl) (by kernel_rfl) (fun _ _ _ h => h) (Or.inr ⟨by kernel_rfl, rfl⟩) (by assumption) ?_
                  try simp only [Act.put, List.setIfInBounds_toArray, List.set_cons_zero, List.set_cons_succ]
                  refine wpAnyH_take (i := 19) (oi := ⟨some 67, _, _, _, _, _⟩) (v := undef) rfl (by kernel_rfl) (by kernel_rfl) (by kernel_rfl) (fun _ _ _ h => h) (Or.inr ⟨by kernel_rfl, rfl⟩) (by assumption) ?_
                  try simp only [Act.put, List.setIfInBounds_toArray, List.set_cons_zero, List.set_cons_succ]
                  refine wpAnyH_take (i := 20) (oi := ⟨some 68, _, _, _, _, _⟩) (v := ?_) rfl (by kernel_rfl) (by kernel_rfl) (by kernel_rfl) (fun _ _ _ h => h) (Or.inl ⟨by kernel_rfl, ?_⟩) hHeld ?_
                  rotate_left
                  · (intro w hSw; (try dsimp only at hSw); go_simp; try with_reducible rfl)
                  try simp only [Act.put, List.setIfInBounds_toArray, List.set_cons_zero, List.set_cons_succ]
                  refine wpAnyH_take (i := 21) (oi := ⟨some 69, _, _, _, _, _⟩) (v := ?_) rfl (by kernel_rfl) (by kernel_rfl) (by kernel_rfl) (fun _ _ _ h => h) (Or.inl ⟨by kernel_rfl, ?_⟩) hHeld ?_
                  rotate_left
                  · (intro w hSw; (try dsimp only at hSw); go_simp; try with_reducible rfl)
                  try simp only [Act.put, List.setIfInBounds_toArray, List.set_cons_zero, List.set_cons_succ]
                  refine wpAnyH_take (i := 22) (oi := ⟨some 70, _, _, _, _, _⟩) (v := undef) rfl (by kernel_rfl) (by kernel_rfl) (by kernel_rfl) (fun _ _ _ h => h) (Or.inr ⟨by kernel_rfl, rfl⟩) (by assumption) ?_
                  try simp only [Act.put, List.setIfInBounds_toArray, List.set_cons_zero, List.set_cons_succ]
                  refine wpAnyH_take (i := 23) (oi := ⟨some 71, _, _, _, _, _⟩) (v := undef) rfl (by kernel_rfl) (by kernel_rfl) (by kernel_rfl) (fun _ _ _ h => h) (Or.inr ⟨by kernel_rfl, rfl⟩) (by assumption) ?_
                  try simp only [Act.put, List.setIfInBounds_toArray, List.set_cons_zero, List.set_cons_succ]
                  refine wpAnyH_take (i := 24) (oi := ⟨some 72, _, _, _, _, _⟩) (v := undef) rfl (by kernel_rfl) (by kernel_rfl) (by kernel_rfl) (fun _ _ _ h => h) (Or.inr ⟨by kernel_rfl, rfl⟩) (by assumption) ?_
                  try simp only [Act.put, List.setIfInBounds_toArray, List.set_cons_zero, List.set_cons_succ]
                  refine wpAnyH_take (i := 25) (oi := ⟨some 73, _, _, _, _, _⟩) (v := undef) rfl (by kernel_rfl) (by kernel_rfl) (by kernel_rfl) (fun _ _ _ h => h) (Or.inr ⟨by kernel_rfl, rfl⟩) (by assumption) ?_
                  try simp only [Act.put, List.setIfInBounds_toArray, List.set_cons_zero, List.set_cons_succ]
                  refine wpAnyH_take (i := 26) (oi := ⟨some 74, _, _, _, _, _⟩) (v := undef) rfl (by kernel_rfl) (by kernel_rfl) (by kernel_rfl) (fun _ _ _ h => h) (Or.inr ⟨by kernel_rfl, rfl⟩) (by assumption) ?_
                  try simp only [Act.put, List.setIfInBounds_toArray, List.set_cons_zero, List.set_cons_succ]
                  refine wpAnyH_take (i := 27) (oi := ⟨some 75, _, _, _, _, _⟩) (v := undef) rfl (by kernel_rfl) (by kernel_rfl) (by kernel_rfl) (fun _ _ _ h => h) (Or.inr ⟨by kernel_rfl, rfl⟩) (by assumption) ?_
                  try simp only [Act.put, List.setIfInBounds_toArray, List.set_cons_zero, List.set_cons_succ]
                  refine wpAnyH_take (i := 28) (oi := ⟨some 76, _, _, _, _, _⟩) (v := ?_) rfl (by kernel_rfl) (by kernel_rfl) (by kernel_rfl) (fun _ _ _ h => h) (Or.inl ⟨by kernel_rfl, ?_⟩) hHeld ?_
                  rotate_left
                  · (intro w hSw; (try dsimp only at hSw); go_simp; try with_reducible rfl)
                  try simp only [Act.put, List.setIfInBounds_toArray, List.set_cons_zero, List.set_cons_succ]
                  refine wpAnyH_done (by kernel_rfl) ?_ _
                  have ef : Ext w1 w4 := by (repeat (first | exact Ext.refl _ | with_reducible assumption | refine Ext.drew ?_ | refine Ext.alloc ?_ _ | refine Ext.trans ?_ (by assumption)))
                  clear k4 o4 hHeld
                  go_wp2
                  go_roundw
                  case rel => exact ⟨k + 1, by omega, by go_num, Lib.hid (by rw [hk1h.out, hst2.out]; exact hl.out.ext ef), hekh.out.trans ef⟩
                  case measure => simp [intOf]; omega
                exact AllReadyH.nil
              exact AllReadyH.nil
              -- END NOPAR
          · have q1 : seq HB (b.take 8) = false := seq_false.2 hEq
            have q1b : (HB == b.take 8) = false := by rw [beq_eq_false_iff_ne]; exact hEq
            rw [q1b, Bool.false_and] at hih
            have hst2 := Lib.hid (show hk1 = hk0 from by rw [hsth.out, hih.out]; rfl)
            clear hsth hih q1b hEq
            -- BEGIN NOEQ
            refine wp_region_held_drew (S := (fun W => Ext w1 W ∧ W.cell? ⟨q, 1, none⟩ = some (.int .i64 (hk0.gen : Int)) ∧ (convert 22 9 (.slice (some ⟨g, o, none⟩) 8 cp)).run Tryd.prog W = .ok (.string (str (b.take 8))) W)) (by kernel_rfl) ?_ (fun hHeld => ?_)
            · (refine hS.out _ ?_; (repeat (first | exact Ext.refl _ | with_reducible assumption | refine Ext.drew ?_ | refine Ext.alloc ?_ _ | refine Ext.trans ?_ (by assumption))))
            refine wpAnyH_take (i := 0) (oi := ⟨some 48, _, _, _, _, _⟩) (v := ?_) rfl (by kernel_rfl) (by kernel_rfl) (by kernel_rfl) (fun _ _ _ h => h) (Or.inl ⟨by kernel_rfl, ?_⟩) hHeld ?_
            rotate_left
            · (intro w hSw; (try dsimp only at hSw); go_simp; try with_reducible rfl)
            try simp only [Act.put, List.setIfInBounds_toArray, List.set_cons_zero, List.set_cons_succ]
            refine wpAnyH_take (i := 1) (oi := ⟨some 49, _, _, _, _, _⟩) (v := ?_) rfl (by kernel_rfl) (by kernel_rfl) (by kernel_rfl) (fun _ _ _ h => h) (Or.inl ⟨by kernel_rfl, ?_⟩) hHeld ?_
            rotate_left
            · (intro w hSw; (try dsimp only at hSw); go_simp; try with_reducible rfl)
            try simp only [Act.put, List.setIfInBounds_toArray, List.set_cons_zero, List.set_cons_succ]
            refine wpAnyH_take (i := 2) (oi := ⟨some 50, _, _, _, _, _⟩) (v := ?_) rfl (by kernel_rfl) (by kernel_rfl) (by kernel_rfl) (fun _ _ _ h => h) (Or.inl ⟨by kernel_rfl, ?_⟩) hHeld ?_
            rotate_left
            · (intro w hSw; (try dsimp only at hSw); go_simp; try with_reducible rfl)
            try simp only [Act.put, List.setIfInBounds_toArray, List.set_cons_zero, List.set_cons_succ]
            refine wpAnyH_take (i := 5) (oi := ⟨some 53, _, _, _, _, _⟩) (v := ?_) rfl (by kernel_rfl) (by kernel_rfl) (by kernel_rfl) (fun _ _ _ h => h) (Or.inl ⟨by kernel_rfl, ?_⟩) hHeld ?_
            rotate_left
            · (intro w hSw; (try dsimp only at hSw); go_simp; try with_reducible rfl)
            try simp only [Act.put, List.setIfInBounds_toArray, List.set_cons_zero, List.set_cons_succ]
            refine wpAnyH_take (i := 6) (oi := ⟨some 54, _, _, _, _, _⟩) (v := ?_) rfl (by kernel_rfl) (by kernel_rfl) (by kernel_rfl) (fun _ _ _ h => h) (Or.inl ⟨by kernel_rfl, ?_⟩) hHeld ?_
            rotate_left
            · (intro w hSw; (try dsimp only at hSw); go_simp; try with_reducible rfl)
            try simp only [Act.put, List.setIfInBounds_toArray, List.set_cons_zero, List.set_cons_succ]
            refine wpAnyH_take (i := 7) (oi := ⟨some 55, _, _, _, _, _⟩) (v := ?_) rfl (by kernel_rfl) (by kernel_rfl) (by kernel_rfl) (fun _ _ _ h => h) (Or.inl ⟨by kernel_rfl, ?_⟩) hHeld ?_
            rotate_left
            · (intro w hSw; (try dsimp only at hSw); go_simp; try with_reducible rfl)
            try simp only [Act.put, List.setIfInBounds_toArray, List.set_cons_zero, List.set_cons_succ]
            refine wpAnyH_ready (rs := [3]) (by kernel_rfl) (by simp) ?_
            refine AllReadyH.cons rfl (fun K hK => ?_) ?_
            · go_simp
              (go_at_call 24; refine (hhd.out _).mono ?_; rintro e w4 ⟨v4, rfl, o4, e4⟩; have k4 := conv_bytes o4.bytes)
              go_wp2_with fail
              clear hHeld
              refine hK.out _ _ ?_ (fun hHeld => ?_)
              · (refine hS.out _ ?_; (repeat (first | exact Ext.refl _ | with_reducible assumption | refine Ext.drew ?_ | refine Ext.alloc ?_ _ | refine Ext.trans ?_ (by assumption))))
              clear hK K
              try simp only [Act.put, List.setIfInBounds_toArray, List.set_cons_zero, List.set_cons_succ]
              refine wpAnyH_ready (rs := [4]) (by kernel_rfl) (by simp) ?_
              refine AllReadyH.cons rfl (fun K hK => ?_) ?_
              · go_simp
                clear hHeld
                refine hK.out _ _ ?_ (fun hHeld => ?_)
                · (refine hS.out _ ?_; (repeat (first | exact Ext.refl _ | with_reducible assumption | refine Ext.drew ?_ | refine Ext.alloc ?_ _ | refine Ext.trans ?_ (by assumption))))
                clear hK K
                try simp only [Act.put, List.setIfInBounds_toArray, List.set_cons_zero, List.set_cons_succ]
                refine wpAnyH_take (i := 8) (oi := ⟨some 56, _, _, _, _, _⟩) (v := ?_) rfl (by kernel_rfl) (by kernel_rfl) (by kernel_rfl) (fun _ _ _ h => h) (Or.inl ⟨by kernel_rfl, ?_⟩) hHeld ?_
                rotate_left
                · (intro w hSw; (try dsimp only at hSw); go_simp; try with_reducible rfl)
                try simp only [Act.put, List.setIfInBounds_toArray, List.set_cons_zero, List.set_cons_succ]
                refine wpAnyH_take (i := 9) (oi := ⟨some 57, _, _, _, _, _⟩) (v := ?_) rfl (by kernel_rfl) (by kernel_rfl) (by kernel_rfl) (fun _ _ _ h => h) (Or.inl ⟨by kernel_rfl, ?_⟩) hHeld ?_
                rotate_left
                · (intro w hSw; (try dsimp only at hSw); go_simp; try with_reducible rfl)
                try simp only [Act.put, List.setIfInBounds_toArray, List.set_cons_zero, List.set_cons_succ]
                refine wpAnyH_take (i := 10) (oi := ⟨some 58, _, _, _, _, _⟩) (v := undef) rfl (by kernel_rfl) (by kernel_rfl) (by kernel_rfl) (fun _ _ _ h => h) (Or.inr ⟨by kernel_rfl, rfl⟩) (by assumption) ?_
                try simp only [Act.put, List.setIfInBounds_toArray, List.set_cons_zero, List.set_cons_succ]
                refine wpAnyH_take (i := 11) (oi := ⟨some 59, _, _, _, _, _⟩) (v := undef) rfl (by kernel_rfl) (by kernel_rfl) (by kernel_rfl) (fun _ _ _ h => h) (Or.inr ⟨by kernel_rfl, rfl⟩) (by assumption) ?_
                try simp only [Act.put, List.setIfInBounds_toArray, List.set_cons_zero, List.set_cons_succ]
                refine wpAnyH_take (i := 12) (oi := ⟨some 60, _, _, _, _, _⟩) (v := undef) rfl (by kernel_rfl) (by kernel_rfl) (by kernel_rfl) (fun _ _ _ h => h) (Or.inr ⟨by kernel_rfl, rfl⟩) (by assumption) ?_
                try simp only [Act.put, List.setIfInBounds_toArray, List.set_cons_zero, List.set_cons_succ]
                refine wpAnyH_take (i := 13) (oi := ⟨some 61, _, _, _, _, _⟩) (v := undef) rfl (by kernel_rfl) (by kernel_rfl) (by kernel_rfl) (fun _ _ _ h => h) (Or.inr ⟨by kernel_rfl, rfl⟩) (by assumption) ?_
                try simp only [Act.put, List.setIfInBounds_toArray, List.set_cons_zero, List.set_cons_succ]
                refine wpAnyH_take (i := 14) (oi := ⟨some 62, _, _, _, _, _⟩) (v := ?_) rfl (by kernel_rfl) (by kernel_rfl) (by kernel_rfl) (fun _ _ _ h => h) (Or.inl ⟨by kernel_rfl, ?_⟩) hHeld ?_
                rotate_left
                · (intro w hSw; (try dsimp only at hSw); go_simp; try with_reducible rfl)
                try simp only [Act.put, List.setIfInBounds_toArray, List.set_cons_zero, List.set_cons_succ]
                refine wpAnyH_take (i := 15) (oi := ⟨some 63, _, _, _, _, _⟩) (v := ?_) rfl (by kernel_rfl) (by kernel_rfl) (by kernel_rfl) (fun _ _ _ h => h) (Or.inl ⟨by kernel_rfl, ?_⟩) hHeld ?_
                rotate_left
                · (intro w hSw; (try dsimp only at hSw); go_simp; try with_reducible rfl)
                try simp only [Act.put, List.setIfInBounds_toArray, List.set_cons_zero, List.set_cons_succ]
                refine wpAnyH_take (i := 16) (oi := ⟨some 64, _, _, _, _, _⟩) (v := undef) rfl (by kernel_rfl) (by kernel_rfl) (by kernel_rfl) (fun _ _ _ h => h) (Or.inr ⟨by kernel_rfl, rfl⟩) (by assumption) ?_
                try simp only [Act.put, List.setIfInBounds_toArray, List.set_cons_zero, List.set_cons_succ]
                refine wpAnyH_take (i := 17) (oi := ⟨some 65, _, _, _, _, _⟩) (v := undef) rfl (by kernel_rfl) (by kernel_rfl) (by kernel_rfl) (fun _ _ _ h => h) (Or.inr ⟨by kernel_rfl, rfl⟩) (by assumption) ?_
                try simp only [Act.put, List.setIfInBounds_toArray, List.set_cons_zero, List.set_cons_succ]
                refine wpAnyH_take (i := 18) (oi := ⟨some 66, _, _, _, _, _⟩) (v := undef) rfl (by kernel_rfl) (by kernel_rfl) (by kernel_rfl) (fun _ _ _ h => h) (Or.inr ⟨by kernel_rfl, rfl⟩) (by assumption) ?_
                try simp only [Act.put, List.setIfInBounds_toArray, List.set_cons_zero, List.set_cons_succ]
                refine wpAnyH_take (i := 19) (oi := ⟨some 67, _, _, _, _, _⟩) (v := undef) rfl (by kernel_rfl) (by kernel_rfl) (by kernel_rfl) (fun _ _ _ h => h) (Or.inr ⟨by kernel_rfl, rfl⟩) (by assumption) ?_
                try simp only [Act.put, List.setIfInBounds_toArray, List.set_cons_zero, List.set_cons_succ]
                refine wpAnyH_take (i := 20) (oi := ⟨some 68, _, _, _, _, _⟩) (v := ?_) rfl (by kernel_rfl) (by kernel_rfl) (by kernel_rfl) (fun _ _ _ h => h) (Or.inl ⟨by kernel_rfl, ?_⟩) hHeld ?_
                rotate_left
                · (intro w hSw; (try dsimp only at hSw); go_simp; try with_reducible rfl)
                try simp only [Act.put, List.setIfInBounds_toArray, List.set_cons_zero, List.set_cons_succ]
                refine wpAnyH_take (i := 21) (oi := ⟨some 69, _, _, _, _, _⟩) (v := ?_) rfl (by kernel_rfl) (by kernel_rfl) (by kernel_rfl) (fun _ _ _ h => h) (Or.inl ⟨by kernel_rfl, ?_⟩) hHeld ?_
                rotate_left
                · (intro w hSw; (try dsimp only at hSw); go_simp; try with_reducible rfl)
                try simp only [Act.put, List.setIfInBounds_toArray, List.set_cons_zero, List.set_cons_succ]
                refine wpAnyH_take (i := 22) (oi := ⟨some 70, _, _, _, _, _⟩) (v := undef) rfl (by kernel_rfl) (by kernel_rfl) (by kernel_rfl) (fun _ _ _ h => h) (Or.inr ⟨by kernel_rfl, rfl⟩) (by assumption) ?_
                try simp only [Act.put, List.setIfInBounds_toArray, List.set_cons_zero, List.set_cons_succ]
                refine wpAnyH_take (i := 23) (oi := ⟨some 71, _, _, _, _, _⟩) (v := undef) rfl (by kernel_rfl) (by kernel_rfl) (by kernel_rfl) (fun _ _ _ h => h) (Or.inr ⟨by kernel_rfl, rfl⟩) (by assumption) ?_
                try simp only [Act.put, List.setIfInBounds_toArray, List.set_cons_zero, List.set_cons_succ]
                refine wpAnyH_take (i := 24) (oi := ⟨some 72, _, _, _, _, _⟩) (v := undef) rfl (by kernel_rfl) (by kernel_rfl) (by kernel_rfl) (fun _ _ _ h => h) (Or.inr ⟨by kernel_rfl, rfl⟩) (by assumption) ?_
                try simp only [Act.put, List.setIfInBounds_toArray, List.set_cons_zero, List.set_cons_succ]
                refine wpAnyH_take (i := 25) (oi := ⟨some 73, _, _, _, _, _⟩) (v := undef) rfl (by kernel_rfl) (by kernel_rfl) (by kernel_rfl) (fun _ _ _ h => h) (Or.inr ⟨by kernel_rfl, rfl⟩) (by assumption) ?_
                try simp only [Act.put, List.setIfInBounds_toArray, List.set_cons_zero, List.set_cons_succ]
                refine wpAnyH_take (i := 26) (oi := ⟨some 74, _, _, _, _, _⟩) (v := undef) rfl (by kernel_rfl) (by kernel_rfl) (by kernel_rfl) (fun _ _ _ h => h) (Or.inr ⟨by kernel_rfl, rfl⟩) (by assumption) ?_
                try simp only [Act.put, List.setIfInBounds_toArray, List.set_cons_zero, List.set_cons_succ]
                refine wpAnyH_take (i := 27) (oi := ⟨some 75, _, _, _, _, _⟩) (v := undef) rfl (by kernel_rfl) (by kernel_rfl) (by kernel_rfl) (fun _ _ _ h => h) (Or.inr ⟨by kernel_rfl, rfl⟩) (by assumption) ?_
                try simp only [Act.put, List.setIfInBounds_toArray, List.set_cons_zero, List.set_cons_succ]
                refine wpAnyH_take (i := 28) (oi := ⟨some 76, _, _, _, _, _⟩) (v := ?_) rfl (by kernel_rfl) (by kernel_rfl) (by kernel_rfl) (fun _ _ _ h => h) (Or.inl ⟨by kernel_rfl, ?_⟩) hHeld ?_
                rotate_left
                · (intro w hSw; (try dsimp only at hSw); go_simp; try with_reducible rfl)
                try simp only [Act.put, List.setIfInBounds_toArray, List.set_cons_zero, List.set_cons_succ]
                refine wpAnyH_done (by kernel_rfl) ?_ _
                have ef : Ext w1 w4 := by (repeat (first | exact Ext.refl _ | with_reducible assumption | refine Ext.drew ?_ | refine Ext.alloc ?_ _ | refine Ext.trans ?_ (by assumption)))
                clear k4 o4 hHeld
                go_wp2
                go_roundw
                case rel => exact ⟨k + 1, by omega, by go_num, Lib.hid (by rw [hk1h.out, hst2.out]; exact hl.out.ext ef), hekh.out.trans ef⟩
                case measure => simp [intOf]; omega
              exact AllReadyH.nil
            exact AllReadyH.nil
            -- END NOEQ
      · obtain rfl : k = 2 := by omega
        go_wp2
        go_meet
        exact ⟨hl.out, ek⟩
  case rest =>
    obtain ⟨hl, eh⟩ := hcut
    obtain ⟨w1, rfl⟩ : ∃ W, W = wc := ⟨_, rfl⟩
    have hlh := Lib.hid hl
    have ehh := Lib.hid eh
    obtain ⟨f1, f2⟩ := pickH_fine (32 * areaN d.n) (rdB 0 d) (rdB 1 d)
    obtain ⟨m, hm⟩ : ∃ m, m = areaN d.n := ⟨_, rfl⟩
    have hmh := Lib.hid hm
    have hm255 := Lib.hid (show m ≤ 255 from by have := h512h.out; rw [hm]; unfold areaN; omega)
    have hfa := Lib.hid (show (openH d).area < 2 from f1.area)
    have hfu := Lib.hid (show (openH d).used ≤ 32 * m from by rw [hm]; exact f2)
    have hal := Lib.hid (areaB_len hokh.out h4'.out (show (openH d).area < 2 from f1.area))
    have hHh := Lib.hid (show openU d = (areaB d (openH d).area).take (openH d).used from rfl)
    have hEd := Lib.hid (show openE d = if Fr.size (scan (openU d)) = (openH d).used then 0 else 20 from by unfold openE; rw [if_neg (by have := h4'.out; omega)])
    have hab := Lib.hid (show areaB d (openH d).area = (List.range m).flatMap fun i => rdB ((2 + (openH d).area * m + i : Nat) : Int) d from by rw [hm]; rfl)
    obtain ⟨H0, hH0⟩ : ∃ H0, H0 = openH d := ⟨_, rfl⟩
    rw [← hH0] at hlh hfa hfu hal hHh hEd hab
    have hHe := Lib.hid hH0
    rw [← hm] at hal
    obtain ⟨G, A, U⟩ := H0
    dsimp only at hfa hfu hal hHh hEd hab
    have hsz := Lib.hid (fun W (e : Ext w1 W) => rsize_any ((hDh.out.ext ehh.out).ext e) h4'.out h512h.out)
    obtain ⟨M, hM⟩ : ∃ M, M = 32 * m := ⟨_, rfl⟩
    rw [← hm, ← hM] at hsz
    have hM8 : M ≤ 8160 := by have := hm255.out; omega
    have g1 : IntKind.i64.wrap ((M : Int) / 32) = (m : Int) := by rw [hM, show ((32 * m : Nat) : Int) / 32 = (m : Int) by omega]; exact wrap_sm (by have := hm255.out; omega)
    obtain ⟨X, hX⟩ : ∃ X, X = A * M := ⟨_, rfl⟩
    obtain ⟨Y, hY⟩ : ∃ Y, Y = A * m := ⟨_, rfl⟩
    have hYX : X = 32 * Y ∧ Y ≤ 255 := by
      have hA2 : A = 0 ∨ A = 1 := by have := hfa.out; omega
      have := hm255.out
      rcases hA2 with rfl | rfl <;> omega
    have g2 : IntKind.i64.wrap ((A : Int) * (M : Int)) = (X : Int) := by
      rw [show (A : Int) * (M : Int) = (X : Int) from by rw [hX]; exact (Int.natCast_mul A M).symm]
      exact wrap_sm (by omega)
    have g3 : IntKind.i64.wrap ((X : Int) / 32) = (Y : Int) := by rw [show (X : Int) / 32 = (Y : Int) by omega]; exact wrap_sm (by omega)
    obtain ⟨Z2, hZ2⟩ : ∃ Z, Z = 2 + Y := ⟨_, rfl⟩
    have g4 : IntKind.i64.wrap (2 + (Y : Int)) = (Z2 : Int) := by rw [show (2 : Int) + (Y : Int) = (Z2 : Int) by omega]; exact wrap_sm (by omega)
    have hZb := Lib.hid (show Z2 ≤ 257 from by omega)
    have hYb := Lib.hid hYX.2
    have hZr := Lib.hid (show ∀ k, k < m → Z2 + k < d.n from z_room h4'.out hfa.out hmh.out hY hZ2)
    rw [← hY, ← hZ2] at hab
    have hMh := Lib.hid hM
    clear hl eh f1 f2 hM hX hY hYX hH0 hm hZ2
    go_upto_block 4 with fail
    go_cut [12] (fun v wd => OwnB wd w1.heap.size v (areaB d A) ∧ RLogAt wd q p ⟨G, A, U⟩ (.slice none 0 0) ∧ Ext w1 wd)
    case first =>
      go_wp2_with fail
      go_loopw [12, 13] (fun v i wr => ∃ k : Nat, k ≤ m ∧ i = .int .i64 (k : Int) ∧ RowKit.Hid (OwnB wr w1.heap.size v ((List.range k).flatMap fun i => rdB ((Z2 + i : Nat) : Int) d)) ∧ Ext w1 wr) (fun _ i _ => m - (intOf i).toNat)
      case atStart => exact ⟨0, Nat.zero_le _, rfl, Lib.hid (World.ownsRow_nil _ _ _ 1), Ext.refl _⟩
      case round =>
        obtain ⟨k, hk, rfl, ho, ek⟩ := hrel
        by_cases hlt : k < m
        · have hki : (k : Int) < (m : Int) := by omega
          have hZk := hZr.out k hlt
          have hLl := Lib.hid (flat_length (fun i => rdB ((Z2 + i : Nat) : Int) d) k (fun i hi => rdB_len hokh.out (hZr.out i (by omega))))
          have g6 : IntKind.i64.wrap ((k : Int) + 1) = (k : Int) + 1 := wrap_le (by omega) (by have := hm255.out; omega)
          have hnx := Lib.hid (show ((List.range (k + 1)).flatMap fun i => rdB ((Z2 + i : Nat) : Int) d) = ((List.range k).flatMap fun i => rdB ((Z2 + i : Nat) : Int) d) ++ rdB ((Z2 + k : Nat) : Int) d from by rw [List.range_succ, List.flatMap_append, List.flatMap_singleton])
          have hrd := Lib.hid (fun W (e : Ext w1 W) => (hDh.out.ext ehh.out).read W ((Z2 + k : Nat) : Int) e)
          have hA2 : A = 0 ∨ A = 1 := by have := hfa.out; omega
          have hbl := Lib.hid (rdB_len hokh.out hZk)
          generalize ((List.range k).flatMap fun i => rdB ((Z2 + i : Nat) : Int) d) = L at *
          obtain ⟨Z, hZe⟩ : ∃ Z, Z = Z2 + k := ⟨_, rfl⟩
          rw [← hZe] at hrd hnx hbl
          have g5 : IntKind.i64.wrap ((Z2 : Int) + (k : Int)) = (Z : Int) := by rw [show (Z2 : Int) + (k : Int) = (Z : Int) by omega]; exact wrap_sm (by have := hm255.out; have := hZb.out; omega)
          clear hZe hZk
          generalize rdB (Z : Int) d = bk at *
          obtain ⟨av, cv, rfl, -⟩ := ho.out.bytes
          have hekh := Lib.hid ek
          have hS := Lib.hid (show ∀ W, Ext w1 W → W.cell? ⟨q, 2, none⟩ = some (.int .i64 (A : Int)) from fun W e => (hlh.out.ext e).cells.2.2.1)
          have err := Ext.refl wr
          clear hA2 ek
          go_upto_region 24 with (go_at_call 60; refine (hsz.out _ hekh.out).mono ?_; rintro e w' ⟨rfl, rfl⟩)
          go_region_held3 (fun W => W.cell? ⟨q, 2, none⟩ = some (.int .i64 (A : Int)))
            ((refine hS.out _ ?_; first | exact e5 | exact hekh.out.drew))
            (first
              | (go_at_call 60; refine (hsz.out _ hekh.out.drew).mono ?_; rintro e w' ⟨rfl, rfl⟩)
              | (go_at_call 59; refine (hrd.out _ hekh.out.drew).mono ?_; rintro e w3 ⟨v3, rfl, hb3, rfl⟩)
              | (refine step_appendB rfl (.tmp 96) (.tmp 109) rfl w1.heap.size (.slice av L.length cv) L rfl (ho.out.ext err.drew) v3 bk rfl hb3 (by have := hbl.out; have := hLl.out; have := hm255.out; omega) hekh.out.drew.size ?_; intro v5 w5 o5 g5; have e5 : Ext w1 w5 := hekh.out.drew.grown g5 fun kk hkk => ho.out.lt _ hkk))
          all_goals go_wp2
          all_goals go_roundw
          case rel => exact ⟨k + 1, by omega, by go_num, Lib.hid (by rw [hnx.out]; exact o5), e5⟩
          case measure => simp [intOf]; omega
        · obtain rfl : k = m := by omega
          go_wp2_with (go_at_call 60; refine (hsz.out _ ek).mono ?_; rintro e w' ⟨rfl, rfl⟩)
          go_meet
          exact ⟨by rw [hab.out]; exact ho.out, hlh.out.ext ek, ek⟩
    case rest =>
      obtain ⟨ho, hl2, ek⟩ := hcut
      obtain ⟨w5, rfl⟩ : ∃ W, W = wc := ⟨_, rfl⟩
      obtain ⟨av, cv, rfl, -⟩ := ho.bytes
      have hvc := ho.bytes.cp.2.1
      have hUl := Lib.hid (show U ≤ (areaB d A).length from by rw [hal.out]; exact hfu.out)
      have b6 := ho.bytes.ini U hUl.out
      rw [← hHh.out] at b6
      have hul := Lib.hid (show (openU d).length = U from by rw [hHh.out, List.length_take]; have := hUl.out; omega)
      have hU1 : (0 : Int) ≤ (U : Int) := by omega
      have hU2 : (U : Int) ≤ (cv : Int) := by have := hUl.out; omega
      have hsc := Lib.hid (rscan_any _ _ w5 b6 (by have := hul.out; have := hfu.out; have := hm255.out; omega))
      have hl2h := Lib.hid hl2
      have c3 := hl2.cells.2.2.2.1
      have ekh := Lib.hid (ehh.out.trans ek)
      have hqw := Lib.hid (show q + 1 ≤ w5.heap.size from hl2.lt)
      clear ho hl2 ek b6
      go_upto_region 26 with (go_at_call 19; refine hsc.out.mono ?_; rintro e w6 ⟨r, rfl, x, rfl, o6, e6⟩)
      have l6h := Lib.hid (hl2h.out.ext e6)
      have d3 := (hl2h.out.ext e6).cells.2.2.2.1
      have d4 := (hl2h.out.ext e6).cells.2.2.2.2
      have f4 := (hl2h.out.ext e6).free 4
      have o6h := Lib.hid (o6.down (base' := q + 1) hqw.out (fun k hk => Nat.le_trans hqw.out hk))
      have e6h := Lib.hid (ekh.out.trans e6)
      obtain ⟨ax, cx, rfl, -, -, -, -⟩ := o6.get
      clear hsc o6 e6 c3 hU1 hU2
      generalize Fr.size (scan (openU d)) = N at *
      by_cases hN : N = U
      · have q1 : ((N : Int) != (U : Int)) = false := by simp [hN]
        have hE := Lib.hid (show openE d = 0 from by rw [hEd.out, if_pos hN])
        clear hEd hN
        go_wp2
        go_ret2
        have c7 := (Chg.refl (fun k => k = q) w6).setCell (x := ⟨q, 4, none⟩) (fun _ => rfl) (.slice ax (scan (openU d)).length cx)
        exact Ret.mk ⟨e6h.out.cellSet hqh.out 4 _, .inr ⟨hE.out, q, rfl, hqh.out, _, by rw [← hHe.out]; exact l6h.out.set4 _, o6h.out.chgO c7 (fun k hk e => by have := (o6h.out.own_lt k hk).1; omega) (fun k hk _ e => by omega)⟩⟩
      · have q1 : ((N : Int) != (U : Int)) = true := by simp; omega
        have hE := Lib.hid (show openE d = 20 from by rw [hEd.out, if_neg hN])
        clear hEd hN
        go_wp2
        go_ret2
        exact Ret.mk ⟨e6h.out, .inl ⟨by rw [hE.out]; decide, by rw [hE.out]; rfl⟩⟩
end Go.Proofs.YtmpjcnopakfdmaaDoor
