/- The document's expiry: which one is dead. -/
import Derived.Test.YtmdepmohfnficaaDoorFxN
namespace Go.Proofs.YtmdepmohfnficaaDoor
set_option linter.unusedVariables false
set_option linter.unusedSimpArgs false
open Go.RowKit Rk Tr

attribute [local irreducible] pcA rcells liveI rightP
set_option maxRecDepth 20000 in
set_option maxHeartbeats 4000000 in
theorem refDead_any {F : Nat → Prop} {p room : Nat} {l : List Rec} (f : Nat → Int) (now : Int) (n : List UInt8) {w : World} (h : TrM 34 w F p room l) (hok : Ok l) (hl : l.length ≤ 64) (ht : tmI now = true) (hrp : rightP f = true) (hin : isIn l n = true) :
    Calls Tryd.prog 67 #[.pointer (some ⟨p, 0, none⟩), .agg (pcA f), .string (str n), .int .i64 now] w fun e w' => e = .returned (.bool (deadI l f now n)) ∧ Ext w w' := by
  have e1 := (Ext.refl w).alloc (.cells (pcA f) 25)
  have hB := heap_alloc_new w (.cells (pcA f) 25)
  have hG := refGet_any n (h.ext e1)
  rw [hin] at hG
  have hK := Lib.hid (fun W (e : Ext w W) => refKids_any n (h.ext e) (by omega))
  have hb := getR_bnd hok n
  have hD : RowKit.Hid (deadI l f now n = (!liveI f (getR l n) now && (!((getR l n).kind == 2 || (getR l n).kind == 3) || ((getR l n).uses == 0 && decide ((kids l n).length = 0))))) := Lib.hid rfl
  generalize getR l n = R at *
  generalize kids l n = K at *
  have tb := tm_bnd ht
  have hLv := Lib.hid (fun W => refLive_any f R now hrp tb.1 tb.2 hb.m1 hb.m2 hb.u1 hb.u2 W)
  generalize deadI l f now n = D at *
  have e1h := Lib.hid e1
  have hBh := Lib.hid hB
  clear h hok ht hb hB e1 tb hin
  go_enter Tryd.func67, Tryd.ntmps67
  go_upto_region 2 with (first
    | (go_at_call 31; refine hG.mono ?_; rintro e w3 ⟨rfl, e3⟩)
    | (refine wpList_store_new w3 rfl 36 _ _ rfl (rcells R) _ rfl rfl rfl 10 info_rec (rc_ten R) rfl (rc_one R) ?_))
  have hb4 := heap_alloc_new w3 (.cells (rcells R) 36)
  have e4 := e3.alloc (.cells (rcells R) 36)
  generalize w3.alloc (.cells (rcells R) 36) = w4 at *
  generalize w3.heap.size = B4 at *
  have kk := cell_at hb4 0 (rc_t R).1
  have ku := cell_at hb4 8 (rc_u R)
  have g2 := e4.heap hBh.out
  have hl4 := hLv.out w4
  have e04 := Lib.hid (e1h.out.trans e4)
  clear hG e3 hBh hLv e4 e1h
  go_upto_region 3 with (first
    | (refine wpList_load_rowG (by rfl) 25 _ rfl w.heap.size rfl 25 (pcA f) (0, 0) _ g2 Tryd.underlying25 rfl (pc_sz f) ?_)
    | (refine wpList_load_rowG (by rfl) 36 _ rfl B4 rfl 36 (rcells R) (0, 0) _ hb4 Tryd.underlying36 rfl (rc_sz R) ?_)
    | (go_at_call 64; refine hl4.mono ?_; rintro e w5 ⟨rfl, e5⟩))
  have kk5 := e5.cell kk
  have ku5 := e5.cell ku
  have e05 := Lib.hid (e04.out.trans e5)
  clear hl4 kk ku g2 hb4 e5 e04
  cases hL : liveI f R now
  · have hD2 := hD.out.trans (by rw [hL]; rfl : _ = (!(R.kind == 2 || R.kind == 3) || (R.uses == 0 && decide (K.length = 0))))
    have hK5 := hK.out w5 e05.out
    by_cases q2 : R.kind = 2
    · have q : (R.kind == 2) = true := beq_iff_eq.2 q2
      rw [q] at hD2
      cases hu : (R.uses == 0)
      · have hD3 := Lib.hid (hD2.trans (by rw [hu]; rfl : _ = false))
        clear hD2 q2
        go_wp2
        go_ret
        exact ⟨by rw [hD3.out]; rfl, e05.out⟩
      · have hD3 := Lib.hid (hD2.trans (by rw [hu]; rfl : _ = decide (K.length = 0)))
        have hz := Lib.hid (len0 K.length)
        clear hD2 q2
        go_wp2_with (go_at_call 43; refine hK5.mono ?_; rintro e w6 ⟨_, rfl, o6, e6⟩; obtain ⟨_, _, rfl, -, -⟩ := o6.shape; go_wp2_with fail)
        go_ret
        exact ⟨by rw [hD3.out, ← hz.out]; rfl, e05.out.trans e6⟩
    · have q : (R.kind == 2) = false := beq_eq_false_iff_ne.2 q2
      rw [q] at hD2
      by_cases q3 : R.kind = 3
      · have q' : (R.kind == 3) = true := beq_iff_eq.2 q3
        rw [q'] at hD2
        cases hu : (R.uses == 0)
        · have hD3 := Lib.hid (hD2.trans (by rw [hu]; rfl : _ = false))
          clear hD2 q2 q3
          go_wp2
          go_ret
          exact ⟨by rw [hD3.out]; rfl, e05.out⟩
        · have hD3 := Lib.hid (hD2.trans (by rw [hu]; rfl : _ = decide (K.length = 0)))
          have hz := Lib.hid (len0 K.length)
          clear hD2 q2 q3
          go_wp2_with (go_at_call 43; refine hK5.mono ?_; rintro e w6 ⟨_, rfl, o6, e6⟩; obtain ⟨_, _, rfl, -, -⟩ := o6.shape; go_wp2_with fail)
          go_ret
          exact ⟨by rw [hD3.out, ← hz.out]; rfl, e05.out.trans e6⟩
      · have q' : (R.kind == 3) = false := beq_eq_false_iff_ne.2 q3
        rw [q'] at hD2
        have hD3 := Lib.hid (hD2.trans (by rfl : _ = true))
        clear hD2 q2 q3
        go_wp2
        go_ret
        exact ⟨by rw [hD3.out]; rfl, e05.out⟩
  · have hD3 := Lib.hid (hD.out.trans (by rw [hL]; rfl : _ = false))
    go_wp2
    go_ret
    exact ⟨by rw [hD3.out]; rfl, e05.out⟩
end Go.Proofs.YtmdepmohfnficaaDoor
