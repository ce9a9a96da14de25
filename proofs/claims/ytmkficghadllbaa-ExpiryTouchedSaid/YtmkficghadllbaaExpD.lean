/- ExpiryTouched, walked. -/
import Derived.Test.YtmkficghadllbaaExpC
namespace Go.Proofs.Ytmkficghadllbaa
open Go.RowKit Rk

theorem right_r (r : Rec) (hf : Fits r) (w : World) : Calls Try.prog 6 #[.agg (rcells r)] w fun e w' => e = .returned (.bool (rightI r)) ∧ Ext w w' := refRight_any r hf hf.1 hf.2.1 w
theorem wpList_store_new {P : Program} {ops : Array Oper} {rest : List Oper} {o : Oper} {a : Act} {w : World} {Q : Exit → Act → World → Prop} (W : World) (hgd : o.guard = none) (ty : TypeId) (x y : Operand) (hop : o.op = .store ty x y)
    (cells old : Array Value) (hW : w = W.alloc (.cells old ty)) (hx : a.eval x = .pointer (some ⟨W.heap.size, 0, none⟩)) (hy : a.eval y = .agg cells) (n : Nat) (hi : (P.info? ty).map (·.size) = some n) (hn : cells.size = n) (ho : old.size = n) (h1 : cells.all (·.oneCell') = true)
    (h : wpList P ops Q rest (a.put o.dst undef) (W.alloc (.cells cells ty))) : wpList P ops Q (o :: rest) a w := by
  subst hW
  have hi : (P.info? ty).map (·.size) = some cells.size := by rw [hn]; exact hi
  have hold : old.size = cells.size := ho.trans hn.symm
  refine wpList_store_row hgd ty x y hop W.heap.size cells hx hy ty old (heap_alloc_new W _) hi hold h1 ?_
  rw [show (W.alloc (.cells old ty)).setRow W.heap.size cells = W.alloc (.cells cells ty) from ?_]
  · exact h
  · simp only [World.setRow, World.alloc]
    congr 1
    apply Array.ext_getElem?
    intro i
    rw [Array.getElem?_modify]
    by_cases h : W.heap.size = i
    · subst h
      simp
    · have h' : ¬ i = W.heap.size := fun e => h e.symm
      simp [h, h', Array.getElem?_push]
def tmI (n : Int) : Bool := decide (0 ≤ n) && decide (n ≤ 1099511627776)
theorem time_any (n : Int) (w : World) :
    Calls Try.prog 7 #[.int .i64 n] w fun e w' => e = .returned (.bool (tmI n)) ∧ w = w' := by
  by_cases h : 0 ≤ n
  · have d : decide (0 ≤ n) = true := decide_eq_true h
    have ht : RowKit.Hid (tmI n = decide (n ≤ 1099511627776)) := Lib.hid (by unfold tmI; rw [d]; rfl)
    clear h
    go_enter Try.func7, Try.ntmps7
    go_wp2
    go_ret
    exact ⟨by rw [ht.out]; rfl, rfl⟩
  · have d : decide (0 ≤ n) = false := decide_eq_false h
    have ht : RowKit.Hid (tmI n = false) := Lib.hid (by unfold tmI; rw [d]; rfl)
    clear h
    go_enter Try.func7, Try.ntmps7
    go_wp2
    go_ret
    exact ⟨by rw [ht.out]; rfl, rfl⟩
def idle (k : Nat) (by_ : Nat) : Nat → Int := upd (fun _ => 0) (7 + k) (1 + (by_ : Int))
theorem touched_plain {r : Rec} (h : rightI r = true) {now : Int} {by_ : Nat} (hu : r.used ≤ now) (ht1 : tmI now = true) (ht2 : tmI (now + 1 + (by_ : Int)) = true) :
    ∃ k : Nat, r.kind = k ∧ 1 ≤ k ∧ k ≤ 6 ∧ 0 ≤ r.uses ∧ r.uses ≤ 255 ∧ 0 ≤ r.made ∧ r.made ≤ 1099511627776 ∧ 0 ≤ r.used ∧ r.used ≤ 1099511627776 ∧ 0 ≤ now ∧ now + 1 + (by_ : Int) ≤ 1099511627776 ∧
      touch r now = { r with uses := min (r.uses + 1) 255, used := now } ∧ liveI (idle k by_) { r with uses := min (r.uses + 1) 255, used := now } (now + by_) = true ∧ liveI (idle k by_) { r with uses := min (r.uses + 1) 255, used := now } (now + 1 + by_) = false := by
  have R := (right_iff r).1 h
  obtain ⟨h1, h6⟩ := R.kind
  unfold tmI at ht1 ht2
  rw [Bool.and_eq_true, decide_eq_true_iff, decide_eq_true_iff] at ht1 ht2
  have hm := R.made
  have hl := R.last
  have hU := R.used
  have hc := R.uses
  have hM := R.most
  obtain ⟨k, hk⟩ : ∃ k : Nat, r.kind = k := ⟨r.kind.toNat, by omega⟩
  have hkt : r.kind.toNat = k := by omega
  refine ⟨k, hk, by omega, by omega, by omega, by omega, by omega, by omega, by omega, by omega, by omega, by omega, ?_, ?_, ?_⟩
  · unfold touch
    rw [show max r.used now = now by omega]
  · unfold liveI bl idle upd
    simp only [hkt]
    rw [decide_eq_true h1, decide_eq_true h6, if_neg (by omega), if_pos trivial, if_neg (by omega)]
    simp; omega
  · unfold liveI bl idle upd
    simp only [hkt]
    rw [decide_eq_true h1, decide_eq_true h6, if_neg (by omega), if_pos trivial, if_neg (by omega)]
    simp; omega
theorem rc_at (r : Rec) : (rcells r)[0]? = some (.int .i64 r.kind) ∧ (rcells r)[7]? = some (.int .i64 r.used) ∧ (rcells r)[8]? = some (.int .i64 r.uses) := ⟨rfl, rfl, rfl⟩
theorem rc_sz (r : Rec) : (Try.prog.info? 23).map (·.size) = some (rcells r).size := info_rec
theorem pc_sz (f : Nat → Int) : (Try.prog.info? 31).map (·.size) = some (pcA f).size := by rw [pcA_size]; exact info_pol
theorem rset7' (r : Rec) (z : Int) : (rcells r).setIfInBounds 7 (.int .i64 z) = rcells { r with used := z } := rfl
theorem rset8' (r : Rec) (z : Int) : (rcells r).setIfInBounds 8 (.int .i64 z) = rcells { r with uses := z } := rfl
theorem rc_ten (r : Rec) : (rcells r).size = 10 := rfl
theorem idle_row (k x : Nat) : (pcA fun _ => 0).setIfInBounds (7 + k) (.int .i64 (1 + (x : Int))) = pcA (idle k x) := pcA_set _ _ _
theorem eql_self (r : Rec) (W : World) : (binOp .eql 23 (.agg (rcells r)) (.agg (rcells r))).run Try.prog W = .ok (.bool true) W := by
  have h := rec_eql r r W
  rwa [req_self] at h
attribute [local irreducible] rcells pcA fewI rightI tmI req liveI touch idle
set_option maxRecDepth 20000 in
set_option maxHeartbeats 4000000 in
theorem expiryTouched_any (r : Rec) (now : Int) (x : Nat) (w : World) (hF : Fits r) (hn1 : -9223372036854775808 ≤ now) (hn2 : now ≤ 9223372036854775807) (hx : x < 65536) :
    Calls Try.prog 3 #[.agg (rcells r), .int .i64 now, .int .u16 (x : Int)] w fun e w' => e = .returned (.bool true) ∧ Ext w w' := by
  have e0 := Ext.refl w
  have hg := heap_alloc_new w (.cells (rcells r) 23)
  have e1 := e0.alloc (.cells (rcells r) 23)
  have hFh := Lib.hid hF
  go_enter Try.func3, Try.ntmps3
  go_upto_region 1 with fail
  generalize w.alloc (.cells (rcells r) 23) = W1 at *
  generalize w.heap.size = B0 at *
  clear e0 hF
  have e1h := Lib.hid e1
  clear e1
  have hgh := Lib.hid hg
  clear hg
  go_upto_region 4 with (first
    | (go_at_call 4; refine (awake15_any _).mono ?_; rintro e W2 ⟨rfl, e2⟩; have hg2 := Lib.hid (e2.heap hgh.out))
    | (refine wpList_load_rowG (by rfl) 23 _ rfl B0 rfl 23 (rcells r) (0, 0) _ (by first | exact hg4.out | exact hg3.out | exact hg2.out) Try.underlying23 rfl (rc_sz r) ?_)
    | (go_at_call 5; refine (few_any r _).mono ?_; rintro e W3 ⟨rfl, e3⟩; have hg3 := Lib.hid (e3.heap hg2.out))
    | (go_at_call 6; refine (right_r r hFh.out _).mono ?_; rintro e W4 ⟨rfl, e4⟩; have hg4 := Lib.hid (e4.heap hg3.out)))
  have e14 := Lib.hid (((e1h.out.trans e2).trans e3).trans e4)
  have c0 := (cell_of_row _ B0 0 _ _ _ hg4.out).trans (rc_at r).1
  have c7 := (cell_of_row _ B0 7 _ _ _ hg4.out).trans (rc_at r).2.1
  have c8 := (cell_of_row _ B0 8 _ _ _ hg4.out).trans (rc_at r).2.2
  clear e2 e3 e4 hgh hg2 hg3 e1h
  cases hf : fewI r
  · go_wp2
    go_ret
    exact ⟨rfl, e14.out⟩
  cases hr : rightI r
  · go_wp2
    go_ret
    exact ⟨rfl, e14.out⟩
  cases ht : tmI now
  · go_wp2_with (go_at_call 7; refine (time_any _ _).mono ?_; rintro e w' ⟨rfl, rfl⟩)
    go_ret
    exact ⟨rfl, e14.out⟩
  by_cases hu : now < r.used
  · have du : decide (now < r.used) = true := decide_eq_true hu
    go_wp2_with (go_at_call 7; refine (time_any _ _).mono ?_; rintro e w' ⟨rfl, rfl⟩)
    go_ret
    exact ⟨rfl, e14.out⟩
  have du : decide (now < r.used) = false := decide_eq_false hu
  have hnb : 0 ≤ now ∧ now ≤ 1099511627776 := by
    have := ht
    unfold tmI at this
    rwa [Bool.and_eq_true, decide_eq_true_iff, decide_eq_true_iff] at this
  have w1 : IntKind.i64.wrap (now + 1) = now + 1 := by rw [IntKind.wrap_i64]; omega
  have w2 : IntKind.i64.wrap (now + 1 + (x : Int)) = now + 1 + (x : Int) := by rw [IntKind.wrap_i64]; omega
  have w3 : IntKind.i64.wrap (x : Int) = (x : Int) := by rw [IntKind.wrap_i64]; omega
  have hnl : 0 ≤ now := hnb.1
  have hnh : now ≤ 2305843009213693952 := by omega
  clear hnb
  cases ht2 : tmI (now + 1 + (x : Int))
  · go_wp2_with (go_at_call 7; refine (time_any _ _).mono ?_; rintro e w' ⟨rfl, rfl⟩)
    go_ret
    exact ⟨rfl, e14.out⟩
  obtain ⟨k, hk, hk1, hk6, hc0, hc1, hm0, hm1, hu0, hu1, -, hnx, hT, hL1, hL2⟩ := touched_plain hr (by omega) ht ht2
  go_upto_region 6 with (go_at_call 7; refine (time_any _ _).mono ?_; rintro e w' ⟨rfl, rfl⟩)
  obtain ⟨T, hTd⟩ : ∃ T : Rec, T = { r with uses := min (r.uses + 1) 255, used := now } := ⟨_, rfl⟩
  rw [← hTd] at hT hL1 hL2
  have hT7 : T.used = now := by rw [hTd]
  have hT8 : T.uses = min (r.uses + 1) 255 := by rw [hTd]
  have hTm : T.made = r.made := by rw [hTd]
  have hTb : ({ ({ T with uses := r.uses } : Rec) with used := r.used } : Rec) = r := by rw [hTd]
  have hTc := touch_any r now hc0 (by omega) W4
  rw [hT] at hTc
  have hLv1 := fun W => live_any (idle k x) T (now + (x : Int)) (by omega) (by omega) (by rw [hTm]; omega) (by rw [hTm]; omega) (by rw [hT7]; omega) (by rw [hT7]; omega) W
  have hLv2 := fun W => live_any (idle k x) T (now + 1 + (x : Int)) (by omega) (by omega) (by rw [hTm]; omega) (by rw [hTm]; omega) (by rw [hT7]; omega) (by rw [hT7]; omega) W
  rw [hL1] at hLv1
  rw [hL2] at hLv2
  have hT7h := Lib.hid hT7
  have hT8h := Lib.hid hT8
  have hTbh := Lib.hid hTb
  have hkh := Lib.hid hk
  clear hTd hT hL1 hL2 hT7 hT8 hTm hTb hk hm0 hm1 hu0 hu1 hf hr ht ht2 du w2 hu
  go_upto_region 7 with (first
    | (refine wpList_load_rowG (by rfl) 23 _ rfl B0 rfl 23 (rcells r) (0, 0) _ hg4.out Try.underlying23 rfl (rc_sz r) ?_)
    | (go_at_call 8; refine hTc.mono ?_; rintro e W5 ⟨rfl, e5⟩)
    | (refine wpList_store_new W5 rfl 23 _ _ rfl (rcells T) _ rfl rfl rfl 10 info_rec (rc_ten T) rfl (rcells_one T) ?_))
  have h10 := heap_alloc_new W5 (.cells (rcells T) 23)
  have e6 := e5.alloc (.cells (rcells T) 23)
  have s10 : W4.heap.size ≤ W5.heap.size := e5.size
  have g6 := e6.heap hg4.out
  have hB0 := (Array.getElem?_eq_some_iff.1 hg4.out).1
  generalize W5.alloc (.cells (rcells T) 23) = W6 at *
  generalize hB10 : W5.heap.size = B10 at *
  have l10 := (Array.getElem?_eq_some_iff.1 h10).1
  have e46 := Lib.hid e6
  clear hTc e5 c0 c7 c8 e6 hB10
  have h11 := heap_alloc_new W6 (.cells (pcA fun _ => 0) 31)
  have e7 := (Ext.refl W6).alloc (.cells (pcA fun _ => 0) 31)
  have g7 := e7.heap g6
  have h17 := e7.heap h10
  have z6 := e46.out.size
  go_upto_region 8 with fail
  rw [pcA_zero]
  generalize W6.alloc (.cells (pcA fun _ => 0) 31) = W7 at *
  generalize hB11 : W6.heap.size = B11 at *
  have k0 := (cell_of_row _ B0 0 _ _ _ g7).trans (rc_at r).1
  rw [hkh.out] at k0
  have k11 := (cell_of_row _ B11 (7 + k) _ _ _ h11).trans (pcA_at _ (by omega))
  have f11 : W7.frozen? ⟨B11, 7 + k, none⟩ = false := by simp [World.frozen?, h11]
  have r11 := setCell_row W7 B11 (7 + k) _ _ _ (.int .i64 (1 + (x : Int))) h11
  rw [idle_row] at r11
  have cS : Chg (fun j => j = B11) W7 (W7.setCell ⟨B11, 7 + k, none⟩ (.int .i64 (1 + (x : Int)))) := (Chg.refl (fun j => j = B11) W7).setCell (fun _ => rfl) _
  have nB0 : ¬ B0 = B11 := by omega
  have nB10 : ¬ B10 = B11 := by omega
  have g8 := (cS.block B0 (Array.getElem?_eq_some_iff.1 g7).1 nB0).trans g7
  have h18 := (cS.block B10 (Array.getElem?_eq_some_iff.1 h17).1 nB10).trans h17
  have e48 : Ext W4 (W7.setCell ⟨B11, 7 + k, none⟩ (.int .i64 (1 + (x : Int)))) := (e46.out.trans e7).chg cS (fun j hj => by omega)
  have w4 : IntKind.i64.wrap (1 + (x : Int)) = 1 + (x : Int) := by rw [IntKind.wrap_i64]; omega
  have i1 : (0 : Int) ≤ (k : Int) := by omega
  have i2 : (k : Int) < 7 := by omega
  have r11h := Lib.hid r11
  have g8h := Lib.hid g8
  have h18h := Lib.hid h18
  have e48h := Lib.hid e48
  clear h11 g7 h17 e7 g6 h10 r11 cS g8 h18 e48 hB11 e46
  go_upto_region 9 with fail
  generalize W7.setCell ⟨B11, 7 + k, none⟩ (.int .i64 (1 + (x : Int))) = W8 at *
  clear k0 k11 f11 i1 i2 w4
  go_upto_region 10 with (first
    | (refine wpList_load_rowG (by rfl) 23 _ rfl B10 rfl 23 (rcells T) (0, 0) _ h18h.out Try.underlying23 rfl (rc_sz T) ?_)
    | (refine wpList_store_new W8 rfl 23 _ _ rfl (rcells T) _ rfl rfl rfl 10 info_rec (rc_ten T) rfl (rcells_one T) ?_))
  have h12 := heap_alloc_new W8 (.cells (rcells T) 23)
  have e9 := (Ext.refl W8).alloc (.cells (rcells T) 23)
  have g9 := e9.heap g8h.out
  have h19 := e9.heap h18h.out
  have r19 := e9.heap r11h.out
  have e49 := e48h.out.trans e9
  have z1 := (Array.getElem?_eq_some_iff.1 g8h.out).1
  have z2 := (Array.getElem?_eq_some_iff.1 h18h.out).1
  have z3 := (Array.getElem?_eq_some_iff.1 r11h.out).1
  have z4 := e48h.out.size
  generalize W8.alloc (.cells (rcells T) 23) = W9 at *
  generalize hB12 : W8.heap.size = B12 at *
  have nA : ¬ B0 = B12 := by omega
  have nB : ¬ B10 = B12 := by omega
  have nC : ¬ B11 = B12 := by omega
  have k8 := (cell_of_row _ B0 8 _ _ _ g9).trans (rc_at r).2.2
  have m8 := (cell_of_row _ B12 8 _ _ _ h12).trans (rc_at T).2.2
  have f8 : W9.frozen? ⟨B12, 8, none⟩ = false := by simp [World.frozen?, h12]
  have r12 := setCell_row W9 B12 8 _ _ _ (.int .i64 r.uses) h12
  rw [rset8'] at r12
  have cS := (Chg.refl (fun j => j = B12) W9).setCell (x := ⟨B12, 8, none⟩) (fun _ => rfl) (.int .i64 r.uses)
  have g10 := (cS.block B0 (Array.getElem?_eq_some_iff.1 g9).1 nA).trans g9
  have h20 := (cS.block B10 (Array.getElem?_eq_some_iff.1 h19).1 nB).trans h19
  have r20 := (cS.block B11 (Array.getElem?_eq_some_iff.1 r19).1 nC).trans r19
  have e50 : Ext W4 (W9.setCell ⟨B12, 8, none⟩ (.int .i64 r.uses)) := e49.chg cS (fun j hj => by omega)
  have g10h := Lib.hid g10
  have h20h := Lib.hid h20
  have r20h := Lib.hid r20
  have e50h := Lib.hid e50
  have r12h := Lib.hid r12
  clear h12 e9 g9 h19 r19 e49 r12 cS g10 h20 r20 e50 g8h h18h r11h e48h hB12
  go_upto_region 11 with fail
  generalize W9.setCell ⟨B12, 8, none⟩ (.int .i64 r.uses) = W10 at *
  clear k8 m8 f8
  have k7 := (cell_of_row _ B0 7 _ _ _ g10h.out).trans (rc_at r).2.1
  have m7 := (cell_of_row _ B12 7 _ _ _ r12h.out).trans (rc_at _).2.1
  have f7 : W10.frozen? ⟨B12, 7, none⟩ = false := by simp [World.frozen?, r12h.out]
  have r13 := setCell_row W10 B12 7 _ _ _ (.int .i64 r.used) r12h.out
  rw [rset7', hTbh.out] at r13
  have cS := (Chg.refl (fun j => j = B12) W10).setCell (x := ⟨B12, 7, none⟩) (fun _ => rfl) (.int .i64 r.used)
  have g11 := (cS.block B0 (Array.getElem?_eq_some_iff.1 g10h.out).1 nA).trans g10h.out
  have h21 := (cS.block B10 (Array.getElem?_eq_some_iff.1 h20h.out).1 nB).trans h20h.out
  have r21 := (cS.block B11 (Array.getElem?_eq_some_iff.1 r20h.out).1 nC).trans r20h.out
  have e51 : Ext W4 (W10.setCell ⟨B12, 7, none⟩ (.int .i64 r.used)) := e50h.out.chg cS (fun j hj => by omega)
  have g11h := Lib.hid g11
  have h21h := Lib.hid h21
  have r21h := Lib.hid r21
  have e51h := Lib.hid e51
  have r13h := Lib.hid r13
  clear r13 cS g11 h21 r21 e51 g10h h20h r20h e50h r12h
  go_upto_region 12 with fail
  generalize W10.setCell ⟨B12, 7, none⟩ (.int .i64 r.used) = W11 at *
  clear k7 m7 f7 nA nB nC z1 z2 z3 z4 l10 hB0 nB0 nB10 s10 z6
  have a7 := (cell_of_row _ B10 7 _ _ _ h21h.out).trans (rc_at T).2.1
  have a8 := (cell_of_row _ B10 8 _ _ _ h21h.out).trans (rc_at T).2.2
  have b8 := (cell_of_row _ B0 8 _ _ _ g11h.out).trans (rc_at r).2.2
  rw [hT7h.out] at a7
  rw [hT8h.out] at a8
  have hq := eql_self r
  have w5 : IntKind.i64.wrap (now + (x : Int)) = now + (x : Int) := by rw [IntKind.wrap_i64]; omega
  have w6 : IntKind.i64.wrap (now + 1 + (x : Int)) = now + 1 + (x : Int) := by rw [IntKind.wrap_i64]; omega
  have w7 : IntKind.i64.wrap (r.uses + 1) = r.uses + 1 := by rw [IntKind.wrap_i64]; omega
  have hH := Lib.hid (fun W (e : Ext W11 W) => And.intro (e.heap r21h.out) (e.heap h21h.out))
  have eF := Lib.hid (e14.out.trans e51h.out)
  have hmn : (r.uses + 1 < 255 ∧ min (r.uses + 1) 255 = r.uses + 1) ∨ (¬ r.uses + 1 < 255 ∧ min (r.uses + 1) 255 = 255) := by omega
  rcases hmn with ⟨q1, q2⟩ | ⟨q1, q2⟩
  all_goals
    rw [q2] at a8
    clear q2
    go_wp2_with (first
      | (refine wpList_load_rowG (by rfl) 23 _ rfl B12 rfl 23 (rcells r) (0, 0) _ r13h.out Try.underlying23 rfl (rc_sz r) ?_)
      | (refine wpList_load_rowG (by rfl) 23 _ rfl B0 rfl 23 (rcells r) (0, 0) _ g11h.out Try.underlying23 rfl (rc_sz r) ?_)
      | (refine wpList_load_rowG (by rfl) 31 _ rfl B11 rfl 31 (pcA (idle k x)) (0, 0) _ ((hH.out _ (by (repeat (first | exact Ext.refl _ | with_reducible assumption | refine Ext.drew ?_ | refine Ext.alloc ?_ _ | refine Ext.trans ?_ (by assumption))))).1) Try.underlying31 rfl (pc_sz _) ?_)
      | (refine wpList_load_rowG (by rfl) 23 _ rfl B10 rfl 23 (rcells T) (0, 0) _ ((hH.out _ (by (repeat (first | exact Ext.refl _ | with_reducible assumption | refine Ext.drew ?_ | refine Ext.alloc ?_ _ | refine Ext.trans ?_ (by assumption))))).2) Try.underlying23 rfl (rc_sz T) ?_)
      | (go_at_call 9; first
          | ((with_reducible refine (hLv1 _).mono ?_); rintro e W12 ⟨rfl, e12⟩)
          | ((with_reducible refine (hLv2 _).mono ?_); rintro e W13 ⟨rfl, e13⟩)))
    go_ret
    exact ⟨rfl, eF.out.trans (by (repeat (first | exact Ext.refl _ | with_reducible assumption | refine Ext.drew ?_ | refine Ext.alloc ?_ _ | refine Ext.trans ?_ (by assumption))))⟩
end Go.Proofs.Ytmkficghadllbaa
