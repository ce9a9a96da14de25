/- Package expiry: Sweep. -/
import Derived.Test.YtmdepmohfnficaaDoorFxF
namespace Go.Proofs.YtmdepmohfnficaaDoor
set_option linter.unusedVariables false
set_option linter.unusedSimpArgs false
open Go.RowKit Rk Tr

theorem len0 (n : Nat) : ((n : Int) == 0) = decide (n = 0) := by
  rw [Bool.eq_iff_iff, beq_iff_eq, decide_eq_true_iff]; omega
theorem rc_u (r : Rec) : (rcells r)[8]? = some (.int .i64 r.uses) := rfl
attribute [local irreducible] pcA rcells liveI
set_option maxRecDepth 20000 in
set_option maxHeartbeats 4000000 in
theorem dead_any {F : Nat → Prop} {p room : Nat} {l : List Rec} (f : Nat → Int) (now : Int) (B1 B2 B3 : Nat) (n : List UInt8) {w : World} (h : TrM 96 w F p room l) (hok : Ok l) (hl : l.length ≤ 64) (ht : tmI now = true)
    (h1 : w.heap[B1]? = some (.cells #[.pointer (some ⟨p, 0, none⟩)] 28 (0, 0))) (h2 : w.heap[B2]? = some (.cells (pcA f) 25 (0, 0))) (h3 : w.heap[B3]? = some (.cells #[.int .i64 now] 3 (0, 0))) :
    Calls Tryd.prog 65 #[.string (str n), .pointer (some ⟨B1, 0, none⟩), .pointer (some ⟨B2, 0, none⟩), .pointer (some ⟨B3, 0, none⟩)] w fun e w' => e = .returned (.bool (deadI l f now n)) ∧ Ext w w' := by
  have hG := get_any n h
  have hK := Lib.hid (fun W (e : Ext w W) => kids_any n (h.ext e) (by omega))
  have hb := getR_bnd hok n
  have hD : RowKit.Hid (deadI l f now n = (!liveI f (getR l n) now && (!((getR l n).kind == 2 || (getR l n).kind == 3) || ((getR l n).uses == 0 && decide ((kids l n).length = 0))))) := Lib.hid rfl
  have c1 := cell_at h1 0 (u := .pointer (some ⟨p, 0, none⟩)) rfl
  have h1h := Lib.hid h1
  have h2h := Lib.hid h2
  have h3h := Lib.hid h3
  generalize getR l n = R at *
  generalize kids l n = K at *
  have hLv := Lib.hid (fun W => liveB_any f R now ht hb W)
  generalize deadI l f now n = D at *
  clear h hok ht hb h1 h2 h3
  go_enter Tryd.func65, Tryd.ntmps65
  go_upto_region 2 with (first
    | (go_at_call 41; refine hG.mono ?_; rintro e w3 ⟨rfl, e3⟩)
    | (refine wpList_store_new w3 rfl 36 _ _ rfl (rcells R) _ rfl rfl rfl 10 info_rec (rc_ten R) rfl (rc_one R) ?_))
  have hb4 := heap_alloc_new w3 (.cells (rcells R) 36)
  have e4 := e3.alloc (.cells (rcells R) 36)
  generalize w3.alloc (.cells (rcells R) 36) = w4 at *
  generalize w3.heap.size = B4 at *
  have kk := cell_at hb4 0 (rc_t R).1
  have ku := cell_at hb4 8 (rc_u R)
  have g1 := e4.heap h1h.out
  have g2 := e4.heap h2h.out
  have g3 := e4.heap h3h.out
  have d1 := cell_at g1 0 (u := .pointer (some ⟨p, 0, none⟩)) rfl
  have d3 := cell_at g3 0 (u := .int .i64 now) rfl
  clear hG c1 e3 h1h h2h h3h g1 g3
  have e4h := Lib.hid e4
  clear e4
  go_cut [8] (fun b wd => b = .bool (R.kind == 2 || R.kind == 3) ∧ wd = w4)
  case first =>
    by_cases q2 : R.kind = 2
    · have q : (R.kind == 2) = true := by rw [beq_iff_eq]; exact q2
      clear q2
      go_wp2
      go_meet
      exact ⟨by rw [q]; rfl, rfl⟩
    · have q : (R.kind == 2) = false := by rw [beq_eq_false_iff_ne]; exact q2
      clear q2
      go_wp2
      go_meet
      exact ⟨by rw [q]; rfl, rfl⟩
  case rest =>
    obtain ⟨rfl, rfl⟩ := hcut
    have hl4 := hLv.out wc
    cases hL : liveI f R now
    · rw [hL] at hl4
      have hD2 := Lib.hid (hD.out.trans (by rw [hL]; rfl : _ = (!(R.kind == 2 || R.kind == 3) || (R.uses == 0 && decide (K.length = 0)))))
      cases hw : (R.kind == 2 || R.kind == 3)
      · have hD3 := Lib.hid (hD2.out.trans (by rw [hw]; rfl : _ = true))
        go_wp2_with (first
          | (refine wpList_load_rowG (by rfl) 25 _ rfl B2 rfl 25 (pcA f) (0, 0) _ g2 Tryd.underlying25 rfl (pc_sz f) ?_)
          | (refine wpList_load_rowG (by rfl) 36 _ rfl B4 rfl 36 (rcells R) (0, 0) _ hb4 Tryd.underlying36 rfl (rc_sz R) ?_)
          | (go_at_call 17; refine hl4.mono ?_; rintro e w5 ⟨rfl, e5⟩; go_wp2_with fail))
        go_ret
        exact ⟨by rw [hD3.out]; rfl, e4h.out.trans e5⟩
      · cases hu : (R.uses == 0)
        · have hD3 := Lib.hid (hD2.out.trans (by rw [hw, hu]; rfl : _ = false))
          go_wp2_with (first
            | (refine wpList_load_rowG (by rfl) 25 _ rfl B2 rfl 25 (pcA f) (0, 0) _ g2 Tryd.underlying25 rfl (pc_sz f) ?_)
            | (refine wpList_load_rowG (by rfl) 36 _ rfl B4 rfl 36 (rcells R) (0, 0) _ hb4 Tryd.underlying36 rfl (rc_sz R) ?_)
            | (go_at_call 17; refine hl4.mono ?_; rintro e w5 ⟨rfl, e5⟩; have ku5 := e5.cell ku; have d15 := e5.cell d1; go_wp2_with fail))
          go_ret
          exact ⟨by rw [hD3.out]; rfl, e4h.out.trans e5⟩
        · have hD3 := Lib.hid (hD2.out.trans (by rw [hw, hu]; rfl : _ = decide (K.length = 0)))
          go_wp2_with (first
            | (refine wpList_load_rowG (by rfl) 25 _ rfl B2 rfl 25 (pcA f) (0, 0) _ g2 Tryd.underlying25 rfl (pc_sz f) ?_)
            | (refine wpList_load_rowG (by rfl) 36 _ rfl B4 rfl 36 (rcells R) (0, 0) _ hb4 Tryd.underlying36 rfl (rc_sz R) ?_)
            | (go_at_call 17; refine hl4.mono ?_; rintro e w5 ⟨rfl, e5⟩; have ku5 := e5.cell ku; have d15 := e5.cell d1; have hK5 := hK.out w5 (e4h.out.trans e5); go_wp2_with (go_at_call 42; refine hK5.mono ?_; rintro e w6 ⟨_, rfl, o6, e6⟩; obtain ⟨a6, c6, rfl⟩ := o6.shapeN)))
          go_ret
          exact ⟨by rw [hD3.out, ← len0]; rfl, (e4h.out.trans e5).trans e6⟩
    · rw [hL] at hl4
      have hD2 := Lib.hid (hD.out.trans (by rw [hL]; rfl : _ = false))
      go_wp2_with (first
        | (refine wpList_load_rowG (by rfl) 25 _ rfl B2 rfl 25 (pcA f) (0, 0) _ g2 Tryd.underlying25 rfl (pc_sz f) ?_)
        | (refine wpList_load_rowG (by rfl) 36 _ rfl B4 rfl 36 (rcells R) (0, 0) _ hb4 Tryd.underlying36 rfl (rc_sz R) ?_)
        | (go_at_call 17; refine hl4.mono ?_; rintro e w5 ⟨rfl, e5⟩; go_wp2_with fail))
      go_ret
      exact ⟨by rw [hD2.out]; rfl, e4h.out.trans e5⟩
set_option maxHeartbeats 1000000 in
theorem indexDead_any (v : Value) (l : List (List UInt8)) (q : List UInt8 → Bool) (B1 B2 B3 : Nat) (w : World) (h : Sl sv w v l) (hP : ∀ W n, Ext w W → Calls Tryd.prog 65 #[.string (str n), .pointer (some ⟨B1, 0, none⟩), .pointer (some ⟨B2, 0, none⟩), .pointer (some ⟨B3, 0, none⟩)] W fun e w' => e = .returned (.bool (q n)) ∧ Ext W w') :
    Calls Tryd.prog 87 #[v, .func (.func 65) #[] #[.pointer (some ⟨B1, 0, none⟩), .pointer (some ⟨B2, 0, none⟩), .pointer (some ⟨B3, 0, none⟩)]] w fun e w' => (∃ z : Int, e = .returned (.int .i64 z) ∧ decide (0 ≤ z) = l.any q) ∧ Ext w w' := by
  obtain ⟨a, cap, rfl, hA⟩ := h
  have hlen := hA.len
  have hgh := Lib.hid hA.cells
  have e0 := Ext.refl w
  clear hA
  go_enter Tryd.func87, Tryd.ntmps87
  go_wp2
  go_loopw [8] (fun i wr => ∃ k : Nat, k ≤ l.length ∧ i = .int .i64 (k : Int) ∧ RowKit.Hid (∀ j x, j < k → l[j]? = some x → q x = false) ∧ Ext w wr) (fun i _ => l.length - (intOf i).toNat)
  case atStart => exact ⟨0, Nat.zero_le _, rfl, Lib.hid fun j x hj => by omega, e0⟩
  case round =>
    obtain ⟨k, hk, rfl, hno, ek⟩ := hrel
    clear e0
    by_cases hlt : k < l.length
    · obtain ⟨x, hx⟩ := some_at hlt
      obtain ⟨g, o, rfl, c1⟩ := hgh.out k x hx
      have hki : (k : Int) < (l.length : Int) := by omega
      have hw : IntKind.i64.wrap ((k : Int) + 1) = (k : Int) + 1 := by rw [IntKind.wrap_i64]; omega
      have d1 := ek.cell c1
      have hat := hP wr x ek
      have hit : RowKit.Hid (q x = true → l.any q = true) := Lib.hid fun h => List.any_eq_true.2 ⟨x, List.mem_of_getElem? hx, h⟩
      have hnx := Lib.hid (fun h => (fun j y hj hy => if e : j = k then by subst e; rw [hx] at hy; cases hy; exact h else hno.out j y (by omega) hy) : q x = false → ∀ j y, j < k + 1 → l[j]? = some y → q y = false)
      unfold sv at d1
      clear c1 hx hno
      cases hs : q x
      · rw [hs] at hat
        have hnx2 := Lib.hid (hnx.out hs)
        clear hnx hit
        go_wp2_with (go_at_call 65; refine hat.mono ?_; rintro e w2 ⟨rfl, e2⟩)
        go_roundw
        case rel => exact ⟨k + 1, by omega, by go_num, Lib.hid hnx2.out, ek.trans e2⟩
        case measure => simp [intOf]; omega
      · rw [hs] at hat
        have hit2 := Lib.hid (hit.out hs)
        clear hnx hit
        go_wp2_with (go_at_call 65; refine hat.mono ?_; rintro e w2 ⟨rfl, e2⟩)
        go_ret
        exact ⟨⟨(k : Int), rfl, by rw [hit2.out]; exact decide_eq_true (by omega)⟩, ek.trans e2⟩
    · obtain rfl : k = l.length := by omega
      have hm := Lib.hid (show l.any q = false from List.any_eq_false.2 fun x hx => by
        obtain ⟨j, hj⟩ := List.getElem?_of_mem hx
        rw [hno.out j x (List.getElem?_eq_some_iff.1 hj).1 hj]; simp)
      go_wp2
      go_ret
      exact ⟨⟨-1, rfl, by rw [hm.out]; rfl⟩, ek⟩
theorem containsDead_any (v : Value) (l : List (List UInt8)) (q : List UInt8 → Bool) (B1 B2 B3 : Nat) (w : World) (h : Sl sv w v l) (hP : ∀ W n, Ext w W → Calls Tryd.prog 65 #[.string (str n), .pointer (some ⟨B1, 0, none⟩), .pointer (some ⟨B2, 0, none⟩), .pointer (some ⟨B3, 0, none⟩)] W fun e w' => e = .returned (.bool (q n)) ∧ Ext W w') :
    Calls Tryd.prog 66 #[v, .func (.func 65) #[] #[.pointer (some ⟨B1, 0, none⟩), .pointer (some ⟨B2, 0, none⟩), .pointer (some ⟨B3, 0, none⟩)]] w fun e w' => e = .returned (.bool (l.any q)) ∧ Ext w w' := by
  have hi := indexDead_any v l q B1 B2 B3 w h hP
  clear h hP
  go_enter Tryd.func66, Tryd.ntmps66
  go_wp2_with (go_at_call 87; refine hi.mono ?_; rintro e w2 ⟨⟨z, rfl, hz⟩, e2⟩)
  go_ret
  exact ⟨by rw [← hz]; rfl, e2⟩
end Go.Proofs.YtmdepmohfnficaaDoor
