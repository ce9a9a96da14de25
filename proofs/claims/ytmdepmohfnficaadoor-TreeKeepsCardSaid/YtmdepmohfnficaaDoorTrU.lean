/- TreeStands, walked. -/
import Derived.Test.YtmdepmohfnficaaDoorTrT
namespace Go.Proofs.YtmdepmohfnficaaDoor
set_option linter.unusedVariables false
set_option linter.unusedSimpArgs false
open Go.RowKit Rk Tr

namespace Tr
theorem path_drop {l : List Rec} (h : Ok l) : ∀ (k : Nat) (n m : List UInt8), (path l n)[k]? = some m → path l m = (path l n).drop k
  | 0, n, m, hk => by
    cases hn : ix l n with
    | none => rw [path_none hn] at hk; simp at hk
    | some i =>
      obtain ⟨r, h1, h2⟩ := ix_some hn
      rw [path_step h hn h1] at hk
      simp only [List.getElem?_cons_zero, Option.some.injEq] at hk
      rw [List.drop_zero, hk]
  | k + 1, n, m, hk => by
    cases hn : ix l n with
    | none => rw [path_none hn] at hk; simp at hk
    | some i =>
      obtain ⟨r, h1, h2⟩ := ix_some hn
      rw [path_step h hn h1] at hk ⊢
      rw [List.getElem?_cons_succ] at hk
      rw [List.drop_succ_cons]
      exact path_drop h k r.par m hk
theorem kind_top {r : Rec} (h : rightI r = true) (hp : r.par = []) : r.kind = 1 ∨ r.kind = 6 := by
  have := ((right_iff r).1 h).par
  unfold parI at this
  rw [if_pos hp] at this
  unfold cm at this
  simp at this
  omega
/-- what stands at a place of a path -/
theorem path_at {l : List Rec} (h : Ok l) {k : Nat} {n m : List UInt8} (hk : (path l n)[k]? = some m) : isIn l m = true ∧ (getR l m).name = m ∧
    ((k + 1 < (path l n).length ∧ seq (getR l m).par [] = false ∧ (path l n)[k + 1]? = some (getR l m).par) ∨ (k + 1 = (path l n).length ∧ seq (getR l m).par [] = true ∧ ((getR l m).kind = 1 ∨ (getR l m).kind = 6))) := by
  have hd := path_drop h k n m hk
  have hkl := (List.getElem?_eq_some_iff.1 hk).1
  cases hm : ix l m with
  | none =>
    rw [path_none hm] at hd
    have := congrArg List.length hd
    simp at this; omega
  | some j =>
    obtain ⟨r, h1, h2⟩ := ix_some hm
    have hg : getR l m = r := by unfold getR; rw [hm]; exact getD_at h1
    rw [hg]
    refine ⟨isIn_ix.2 (by rw [hm]; simp), h2, ?_⟩
    have hs := path_step h hm h1
    rw [hd] at hs
    have ht : (path l n).drop (k + 1) = path l r.par := by
      have := congrArg (List.drop 1) hs
      rwa [List.drop_drop, List.drop_succ_cons, List.drop_zero] at this
    rcases ix_par h h1 with ⟨h5, h6⟩ | ⟨q, t, h5, h6, h7, h8⟩
    · right
      rw [path_none h6] at ht
      have := congrArg List.length ht
      simp at this
      exact ⟨by omega, seq_true.2 h5, kind_top (h.right r (List.mem_of_getElem? h1)) h5⟩
    · left
      have hs2 := path_step h h8 h6
      have h0 : (path l n)[k + 1]? = some r.par := by
        have := congrArg (fun x => x[0]?) ht
        rw [hs2] at this
        simpa using this
      refine ⟨(List.getElem?_eq_some_iff.1 h0).1, seq_false.2 fun e => ?_, h0⟩
      rw [e, ix_nil h] at h8; cases h8
theorem path_first {l : List Rec} (h : Ok l) {k : Nat} {x : Rec} (hx : l[k]? = some x) : (path l x.name)[0]? = some x.name ∧ 0 < (path l x.name).length := by
  rw [path_step h (ix_at h.nodup hx) hx]
  simp
theorem names_apart {l : List Rec} (h : Ok l) {i k : Nat} {x y : Rec} (hx : l[k]? = some x) (hy : l[i]? = some y) (hne : i ≠ k) : seq y.name x.name = false := seq_false.2 fun e => hne (same_at h.nodup hy hx e)
end Tr
theorem rc_k (r : Rec) : (rcells r)[0]? = some (.int .i64 r.kind) ∧ (rcells r)[2]? = some (.string (str r.par)) := ⟨rfl, rfl⟩
attribute [local irreducible] rcells ocells fewI runL
set_option maxRecDepth 20000 in
set_option maxHeartbeats 4000000 in
theorem treeStands_any (z : Int) (v1 : Value) (l1 : List Top) (w : World) (hw : Pres w) (h1 : TOps w v1 l1) :
    Calls Tryd.prog 9 #[.int .i64 z, v1] w fun e w' => e = .returned (.bool true) ∧ Ext w w' := by
  have hwh := Lib.hid hw
  have h1h := Lib.hid h1
  obtain ⟨a1, c1, rfl, -⟩ := Rw.shape h1
  have hA := awake14_any w hw
  clear hw h1
  go_enter Tryd.func9, Tryd.ntmps9
  go_upto_region 2 with (go_at_call 20; refine hA.mono ?_; rintro e W1 ⟨rfl, e1⟩)
  have hf1 := fewT_any _ l1 W1 (h1h.out.ext e1)
  clear hA
  go_upto_region 3 with (go_at_call 21; refine hf1.mono ?_; rintro e W2 ⟨rfl, e2⟩)
  have e02 := e1.trans e2
  clear hf1 e1 e2
  cases k1 : fewT l1
  · go_wp2
    go_ret
    exact ⟨rfl, e02⟩
  have hT := walked_any z _ l1 W2 (h1h.out.ext e02) (hwh.out.ext e02)
  go_upto_region 6 with (go_at_call 22; refine hT.mono ?_; rintro e W4 ⟨p, rfl, t4⟩)
  have hSt := Lib.hid (St.run l1 (St.nil (roomN_le z)))
  have hroom := Lib.hid (roomN_eq z)
  obtain ⟨L, hL⟩ : ∃ L, L = runL (roomN z) [] l1 := ⟨_, rfl⟩
  rw [← hL] at t4 hSt
  generalize roomN z = room at *
  clear hL hT k1
  have hl := Lib.hid hSt.out.small
  have tp := t4.1
  have e04 := e02.trans t4.2
  clear t4 e02
  have A1 := all_any tp (by have := hl.out; omega)
  go_upto_region 9 with (go_at_call 25; refine A1.mono ?_; rintro e W5 ⟨_, rfl, o5, ⟨a5, c5, rfl⟩, e5⟩)
  have e05 := Lib.hid (e04.trans e5)
  have tp := Lib.hid (tp.ext e5)
  obtain ⟨a', cap', hq, -, hget⟩ := Rw.shape o5.recs
  cases hq
  have hgh := Lib.hid hget
  clear A1 e04 e5 o5 hget
  have hmax : ((L.length : Nat) : Int) ≤ max 0 (min z 64) := by
    have := hSt.out.len
    have := hroom.out
    omega
  go_cut [33] (fun b wd => b = .bool false ∧ wd = W5)
  case first =>
    go_wp2
    all_goals go_meet
    all_goals exact ⟨by congr 1; rw [decide_eq_false_iff_not]; omega, rfl⟩
  case rest =>
    obtain ⟨rfl, rfl⟩ := hcut
    clear hmax
    go_wp2
    go_loopw [9] (fun i wr => ∃ k : Nat, k ≤ L.length ∧ i = .int .i64 (k : Int) ∧ Ext wc wr) (fun i _ => L.length - (intOf i).toNat)
    case atStart => exact ⟨0, Nat.zero_le _, rfl, Ext.refl _⟩
    case round =>
      obtain ⟨k, hk, rfl, ek⟩ := hrel
      by_cases hlt : k < L.length
      · obtain ⟨x, hx⟩ := some_at hlt
        obtain ⟨g, o, cs, rfl, hr, rfl, -⟩ := hgh.out k x hx
        have hki : (k : Int) < (L.length : Int) := by omega
        have hw : IntKind.i64.wrap ((k : Int) + 1) = (k : Int) + 1 := by have := hl.out; rw [IntKind.wrap_i64]; omega
        have n0 := hr 1 _ (prow_cells x).2.1
        have n1 := ek.cell n0
        have hP := path_any x.name (tp.out.ext ek) hSt.out.ok (by have := hl.out; omega)
        have hfi := Lib.hid (path_first hSt.out.ok hx)
        have hpl := Lib.hid (path_le hSt.out.ok x.name)
        have hpa := Lib.hid (fun j m => path_at (k := j) (m := m) hSt.out.ok (n := x.name))
        have hna := Lib.hid (fun j (y : Rec) (hy : L[j]? = some y) (hne : j ≠ k) => names_apart hSt.out.ok hx hy hne)
        have hxh := Lib.hid hx
        have n0h := Lib.hid n0
        clear n0 hx hr
        go_upto_region 15 with (go_at_call 35; refine hP.mono ?_; rintro e W6 ⟨_, rfl, o6, e6⟩)
        obtain ⟨a6, c6, rfl, hp6⟩ := o6.sl
        generalize path L x.name = P at *
        have e56 := ek.trans e6
        have hp6l := hp6.len
        have hp6h := Lib.hid hp6.cells
        have nW := e56.cell n0h.out
        obtain ⟨g6, q6, rfl, p0⟩ := hp6h.out 0 x.name hfi.out.1
        unfold sv at p0
        rw [Nat.add_zero] at p0
        have d0 : ((P.length : Int) == 0) = false := by rw [beq_eq_false_iff_ne]; have := hfi.out.2; omega
        have d1 : decide (L.length < P.length) = false := by rw [decide_eq_false_iff_not]; have := hpl.out; omega
        have i0 : (0 : Int) < (P.length : Int) := by have := hfi.out.2; omega
        have hss := seq_self x.name
        clear hP o6 hp6 n1
        go_quiet (fail)
        have e57 := e56.trans (Ext.drewM W6 nq)
        have e67 := Ext.drewM W6 nq
        generalize W6.drewN nq = W7 at *
        clear p0 nW e6 e56
        have e07 := e05.out.trans e57
        obtain ⟨W8, rfl⟩ : ∃ W, W = W7 := ⟨_, rfl⟩
        go_wp2
        go_loopw [11] (fun i ws => ∃ j : Nat, j ≤ P.length ∧ i = .int .i64 (j : Int) ∧ Ext W8 ws) (fun i _ => P.length - (intOf i).toNat)
        case atStart => exact ⟨0, Nat.zero_le _, rfl, Ext.refl _⟩
        case round =>
          obtain ⟨j, hj, rfl, ej⟩ := hrel
          clear d0 d1 i0 hss
          by_cases hjt : j < P.length
          · obtain ⟨m, hm⟩ := some_at hjt
            obtain ⟨_, _, hq, pj0⟩ := hp6h.out j m hm
            cases hq
            have hP64 : P.length ≤ 64 := Nat.le_trans hpl.out hl.out
            have hji : (j : Int) < (P.length : Int) := by omega
            have hw2 : IntKind.i64.wrap ((j : Int) + 1) = (j : Int) + 1 := by rw [IntKind.wrap_i64]; omega
            unfold sv at pj0
            have pj := (e67.trans ej).cell pj0
            have hG := get_any m (tp.out.ext (e57.trans ej))
            obtain ⟨q1, q2, q3⟩ := hpa.out j m hm
            rw [q1] at hG
            generalize getR L m = R at *
            clear q1 q2
            have e0j := e07.trans ej
            go_upto_region 21 with (first
              | (go_at_call 41; refine hG.mono ?_; rintro e W9 ⟨rfl, e9⟩)
              | (refine wpList_store_new W9 rfl 36 _ _ rfl (rcells R) _ rfl rfl rfl 10 info_rec (rc_ten R) rfl (rc_one R) ?_))
            have hB := heap_alloc_new W9 (.cells (rcells R) 36)
            have k0 := cell_at hB 0 (rc_k R).1
            have k2 := cell_at hB 2 (rc_k R).2
            have e8t := (ej.trans e9).alloc (.cells (rcells R) 36)
            have e6t := e67.trans e8t
            generalize W9.alloc (.cells (rcells R) 36) = WA at *
            generalize W9.heap.size = B at *
            clear hB hG pj e9 ej pj0
            rcases q3 with ⟨b1, b2, b3⟩ | ⟨b1, b2, b3⟩
            · obtain ⟨_, _, hq, pj1⟩ := hp6h.out (j + 1) _ b3
              cases hq
              unfold sv at pj1
              have pj2 := e6t.cell pj1
              have d2 : decide ((j : Int) + 1 < (P.length : Int)) = true := by rw [decide_eq_true_iff]; omega
              have i1 : (j : Int) + 1 < (P.length : Int) := by omega
              have i2 : (0 : Int) ≤ (j : Int) + 1 := by omega
              have i3 : ((j : Int) + 1).toNat = j + 1 := by omega
              have d3 : ((j : Int) + 1 == (P.length : Int)) = false := by rw [beq_eq_false_iff_ne]; omega
              have hss := seq_self R.par
              go_quiet (fail)
              have e8n := e8t.trans (Ext.drewM WA nq)
              have k0 := (Ext.drewM WA nq).cell k0
              generalize WA.drewN nq = WB at *
              clear pj1 pj2 k2 hss
              go_wp2
              go_roundw
              case rel => exact ⟨j + 1, by omega, by go_num, e8n⟩
              case measure => simp [intOf]; omega
            · have d2 : decide ((j : Int) + 1 < (P.length : Int)) = false := by rw [decide_eq_false_iff_not]; omega
              have d3 : ((j : Int) + 1 == (P.length : Int)) = true := by rw [beq_iff_eq]; omega
              go_quiet (fail)
              have e8n := e8t.trans (Ext.drewM WA nq)
              have k0 := (Ext.drewM WA nq).cell k0
              generalize WA.drewN nq = WB at *
              clear k2
              rcases b3 with b3 | b3
              · rw [b3] at k0
                go_wp2
                go_roundw
                case rel => exact ⟨j + 1, by omega, by go_num, e8n⟩
                case measure => simp [intOf]; omega
              · rw [b3] at k0
                go_wp2
                go_roundw
                case rel => exact ⟨j + 1, by omega, by go_num, e8n⟩
                case measure => simp [intOf]; omega
          · obtain rfl : j = P.length := by omega
            have e58 := e57.trans ej
            clear hpa hp6h hpl hfi e07 e67 ej e57
            obtain ⟨WX, rfl⟩ : ∃ W, W = wr := ⟨_, rfl⟩
            go_wp2
            go_loopw [14] (fun i wt => ∃ q : Nat, q ≤ k ∧ i = .int .i64 (q : Int) ∧ Ext WX wt) (fun i _ => k - (intOf i).toNat)
            case atStart => exact ⟨0, Nat.zero_le _, rfl, Ext.refl _⟩
            case round =>
              obtain ⟨q, hq, rfl, eq⟩ := hrel
              by_cases hqk : q < k
              · obtain ⟨y, hy⟩ := some_at (l := L) (by omega : q < L.length)
                obtain ⟨_, _, _, hq2, hry, rfl, -⟩ := hgh.out q y hy
                cases hq2
                have hqi : (q : Int) < (k : Int) := by omega
                have hql : (q : Int) < (L.length : Int) := by omega
                have hw3 : IntKind.i64.wrap ((q : Int) + 1) = (q : Int) + 1 := by have := hl.out; rw [IntKind.wrap_i64]; omega
                have m1 := (e58.trans eq).cell (hry 1 _ (prow_cells y).2.1)
                have m2 := (e58.trans eq).cell n0h.out
                have hne := hna.out q y hy (by omega)
                clear hry hy
                go_upto_region 28 with fail
                go_quiet (fail)
                have e9 := eq.trans (Ext.drewM wr nq)
                generalize wr.drewN nq = WC at *
                clear m1 m2
                go_wp2
                go_roundw
                case rel => exact ⟨q + 1, by omega, by go_num, e9⟩
                case measure => simp [intOf]; omega
              · obtain rfl : q = k := by omega
                have e59 := e58.trans eq
                clear hna n0h e58 eq
                go_wp2
                go_roundw
                case rel => exact ⟨q + 1, by omega, by go_num, e59⟩
                case measure => simp [intOf]; omega
      · obtain rfl : k = L.length := by omega
        have e0r := e05.out.trans ek
        clear hgh ek
        go_wp2
        go_ret
        exact ⟨rfl, e0r⟩
end Go.Proofs.YtmdepmohfnficaaDoor
