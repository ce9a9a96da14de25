/- The document's expiry: Alive. -/
import Derived.Test.YtmdepmohfnficaaDoorFxK
namespace Go.Proofs.YtmdepmohfnficaaDoor
set_option linter.unusedVariables false
set_option linter.unusedSimpArgs false
open Go.RowKit Rk Tr

namespace Tr
theorem path_same {l : List Rec} (h : Ok l) {j : Nat} {n m : List UInt8} (hm : (path l n)[j]? = some m) : seq m n = decide (j = 0) := by
  have hlt := (List.getElem?_eq_some_iff.1 hm).1
  by_cases hj : j = 0
  · subst hj
    rw [decide_eq_true rfl]
    have := path_drop h 0 n m hm
    cases hi : ix l n with
    | none => rw [path_none hi] at hlt; simp at hlt
    | some i =>
      obtain ⟨r, h1, -⟩ := ix_some hi
      rw [path_step h hi h1] at hm
      simp at hm
      exact seq_true.2 hm.symm
  · rw [decide_eq_false hj]
    refine seq_false.2 fun e => ?_
    have := path_drop h j n m hm
    rw [e] at this
    have := congrArg List.length this
    rw [List.length_drop] at this
    omega
end Tr
attribute [local irreducible] pcA rcells liveI holdsI offI aliveI rightP
set_option maxRecDepth 20000 in
set_option maxHeartbeats 4000000 in
theorem refAlive_any {F : Nat → Prop} {p room : Nat} {l : List Rec} (f : Nat → Int) (n : List UInt8) (now : Int) {w : World} (h : TrM 34 w F p room l) (hok : Ok l) (hl : l.length ≤ 64) (ht : tmI now = true) (hrp : rightP f = true) :
    Calls Tryd.prog 27 #[.pointer (some ⟨p, 0, none⟩), .agg (pcA f), .string (str n), .int .i64 now] w fun e w' => e = .returned (.bool (aliveI l f now n)) ∧ Ext w w' := by
  have e1 := (Ext.refl w).alloc (.cells (pcA f) 25)
  have hB := heap_alloc_new w (.cells (pcA f) 25)
  have h1 := h.ext e1
  have hP := refPath_any n h1 hok (by omega)
  have hG := Lib.hid (fun m W (e : Ext w W) => refGet_any m (h.ext e))
  have hbn := Lib.hid (fun m => getR_bnd hok m)
  have hno := Lib.hid (fun m => alive_no (l := l) (f := f) (now := now) (n := n) (m := m))
  have hen := Lib.hid (alive_end (l := l) (f := f) (now := now) (n := n))
  have hof := Lib.hid (fun m => (show offI l f now n m = ((seq m n || holdsI (getR l m).kind) && !liveI f (getR l m) now) from by unfold offI; rfl))
  have hsm := Lib.hid (fun j m => path_same hok (n := n) (j := j) (m := m))
  have hpl := Lib.hid (Nat.le_trans (path_le hok n) hl)
  have e1h := Lib.hid e1
  have hBh := Lib.hid hB
  clear h h1 hB e1 hok
  go_enter Tryd.func27, Tryd.ntmps27
  go_upto_region 2 with (go_at_call 45; refine hP.mono ?_; rintro e w2 ⟨_, rfl, o2, e2⟩)
  obtain ⟨a2, c2, rfl, hp2⟩ := o2.sl
  have hgh := Lib.hid hp2.cells
  have hB2 := Lib.hid (e2.heap hBh.out)
  have e02 := Lib.hid (e1h.out.trans e2)
  generalize hPl : path l n = P at *
  clear hP o2 hp2 e2 e1h hBh hPl
  go_wp2
  go_loopw [10] (fun i wr => ∃ j : Nat, j ≤ P.length ∧ i = .int .i64 (j : Int) ∧ RowKit.Hid (∀ q m, q < j → P[q]? = some m → offI l f now n m = false) ∧ Ext w2 wr) (fun i _ => P.length - (intOf i).toNat)
  case atStart => exact ⟨0, Nat.zero_le _, rfl, Lib.hid fun q m h => by omega, Ext.refl _⟩
  case round =>
    obtain ⟨j, hj, rfl, hq, ej⟩ := hrel
    by_cases hlt : j < P.length
    · obtain ⟨m, hm⟩ := some_at hlt
      obtain ⟨g, o, rfl, k0⟩ := hgh.out j m hm
      have k1 := ej.cell k0
      unfold sv at k1
      have hji : (j : Int) < (P.length : Int) := by omega
      have hw : IntKind.i64.wrap ((j : Int) + 1) = (j : Int) + 1 := by have := hpl.out; rw [IntKind.wrap_i64]; omega
      have hGm := hG.out m wr (e02.out.trans ej)
      have hb := hbn.out m
      have hof2 := hof.out m
      rw [hsm.out j m hm] at hof2
      have hnom := Lib.hid (hno.out m (List.mem_of_getElem? hm))
      have hnx := Lib.hid (fun h => (fun q y hqj hy => if e : q = j then by subst e; rw [hm] at hy; cases hy; exact h else hq.out q y (by omega) hy) : offI l f now n m = false → ∀ q y, q < j + 1 → P[q]? = some y → offI l f now n y = false)
      clear k0 hm hq
      generalize getR l m = R at *
      have tb := tm_bnd ht
      have hLv := fun W => refLive_any f R now hrp tb.1 tb.2 hb.m1 hb.m2 hb.u1 hb.u2 W
      have hofh := Lib.hid hof2
      clear hof2 hb tb
      go_upto_region 6 with (first
        | (go_at_call 31; refine hGm.mono ?_; rintro e w3 ⟨rfl, e3⟩)
        | (refine wpList_store_new w3 rfl 36 _ _ rfl (rcells R) _ rfl rfl rfl 10 info_rec (rc_ten R) rfl (rc_one R) ?_))
      have hb4 := heap_alloc_new w3 (.cells (rcells R) 36)
      have e24 := (ej.trans e3).alloc (.cells (rcells R) 36)
      generalize w3.alloc (.cells (rcells R) 36) = w4 at *
      generalize w3.heap.size = B4 at *
      have kk := cell_at hb4 0 (rc_t R).1
      have hp4 := e24.heap hB2.out
      clear hGm k1 ej e3
      have hLw := hLv w4
      clear hLv
      go_upto_region 7 with (first
        | (refine wpList_load_rowG (by rfl) 25 _ rfl w.heap.size rfl 25 (pcA f) (0, 0) _ hp4 Tryd.underlying25 rfl (pc_sz f) ?_)
        | (refine wpList_load_rowG (by rfl) 36 _ rfl B4 rfl 36 (rcells R) (0, 0) _ hb4 Tryd.underlying36 rfl (rc_sz R) ?_)
        | (go_at_call 64; refine hLw.mono ?_; rintro e w5 ⟨rfl, e5⟩))
      have kk5 := e5.cell kk
      have e25 := e24.trans e5
      clear hLw kk hb4 hp4 e24 e5
      go_cut [13, 35, 51] (fun a c b wd => a = .bool (liveI f R now) ∧ c = .bool (liveI f R now) ∧ b = .bool (offI l f now n m) ∧ Ext w5 wd)
      case first =>
        cases hv : liveI f R now
        all_goals have hvh := Lib.hid hv
        · by_cases hj0 : j = 0
          · have hF := Lib.hid (hofh.out.trans (by rw [hv, decide_eq_true hj0]; rfl : _ = true))
            have q0 : ((j : Int) == 0) = true := by rw [hj0]; rfl
            clear hj0 hv
            go_wp2
            go_meet
            exact ⟨by rw [hvh.out], by rw [hvh.out], by rw [hF.out], Ext.refl _⟩
          · have hF := hofh.out.trans (by rw [hv, decide_eq_false hj0, Bool.false_or, Bool.not_false, Bool.and_true] : _ = holdsI R.kind)
            have q0 : ((j : Int) == 0) = false := by rw [beq_eq_false_iff_ne]; omega
            by_cases h1 : R.kind = 1
            · have hF2 := Lib.hid (hF.trans (show holdsI R.kind = true from by unfold holdsI; rw [h1]; rfl))
              have q1 : (R.kind == 1) = true := by rw [h1]; rfl
              clear hF h1 hj0 hv
              go_wp2
              go_meet
              exact ⟨by rw [hvh.out], by rw [hvh.out], by rw [hF2.out], Ext.refl _⟩
            · have hF2 := Lib.hid (hF.trans (show holdsI R.kind = (R.kind == 4) from by unfold holdsI; rw [beq_eq_false_iff_ne.2 h1]; rfl))
              have q1 : (R.kind == 1) = false := beq_eq_false_iff_ne.2 h1
              clear hF h1 hj0 hv
              go_wp2
              go_meet
              exact ⟨by rw [hvh.out], by rw [hvh.out], by rw [hF2.out], Ext.refl _⟩
        · have hF := Lib.hid (hofh.out.trans (by rw [hv]; exact Bool.and_false _ : _ = false))
          clear hv
          go_wp2
          go_meet
          exact ⟨by rw [hvh.out], by rw [hvh.out], by rw [hF.out], Ext.refl _⟩
      case rest =>
        obtain ⟨rfl, rfl, rfl, e5⟩ := hcut
        have e26 := e25.trans e5
        clear kk5 hofh e25 e5
        cases hO : offI l f now n m
        · have hnx2 := Lib.hid (hnx.out hO)
          clear hnx hnom
          go_wp2
          go_roundw
          case rel => exact ⟨j + 1, by omega, by go_num, Lib.hid hnx2.out, e26⟩
          case measure => simp [intOf]; omega
        · have hF := Lib.hid (hnom.out hO)
          clear hnx hnom
          go_wp2
          go_ret
          exact ⟨by rw [hF.out]; rfl, e02.out.trans e26⟩
    · obtain rfl : j = P.length := by omega
      have hE := Lib.hid (hen.out hq.out)
      clear hen hq
      go_wp2
      go_ret
      exact ⟨by rw [hE.out]; rfl, e02.out.trans ej⟩
end Go.Proofs.YtmdepmohfnficaaDoor
