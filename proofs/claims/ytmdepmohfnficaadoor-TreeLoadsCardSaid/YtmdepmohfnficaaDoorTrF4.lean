/- TreeLoads, walked. -/
import Derived.Test.YtmdepmohfnficaaDoorTrF3
import Derived.Deep.RegionHeld3
namespace Go.Proofs.YtmdepmohfnficaaDoor
open Go.RowKit Rk Tr

attribute [local irreducible] rcells rndP loadL
set_option maxRecDepth 20000 in
set_option maxHeartbeats 4000000 in
theorem treeLoads_any (z : Int) (v : Value) (ps : List Pr) (w : World) (hw : Pres w) (h : Prs w v ps) :
    Calls Tryd.prog 11 #[.int .i64 z, v] w fun e w' => e = .returned (.bool true) ∧ Ext w w' := by
  have hwh := Lib.hid hw
  have hph := Lib.hid h
  obtain ⟨a, cap, rfl, hlm, hget⟩ := Rw.shape h
  have hgh := Lib.hid hget
  have hA := awake14_any w hw
  clear hw h hget
  go_enter Tryd.func11, Tryd.ntmps11
  go_upto_region 2 with (go_at_call 20; refine hA.mono ?_; rintro e W1 ⟨rfl, e1⟩)
  clear hA
  by_cases h30 : (30 : Int) < (ps.length : Int)
  · have d30 : decide ((30 : Int) < (ps.length : Int)) = true := decide_eq_true h30
    go_wp2
    go_ret
    exact ⟨rfl, e1⟩
  have d30 : decide ((30 : Int) < (ps.length : Int)) = false := decide_eq_false h30
  have hl30 : ps.length ≤ 30 := by omega
  have e1h := Lib.hid e1
  clear e1
  go_wp2
  go_loop [6] (fun i => ∃ j : Nat, j ≤ ps.length ∧ i = .int .i64 (j : Int) ∧ RowKit.Hid (∀ q x, q < j → ps[q]? = some x → x.n.length ≤ 60 ∧ x.v.length ≤ 400)) (fun i => ps.length - (intOf i).toNat)
  case atStart => exact ⟨0, Nat.zero_le _, rfl, Lib.hid fun q x h => by omega⟩
  case round =>
    obtain ⟨j, hj, rfl, hs⟩ := hrel
    by_cases hjl : j < ps.length
    · obtain ⟨x, hx⟩ := some_at hjl
      obtain ⟨g, o, cs, rfl, hr, rfl, hfx⟩ := hgh.out j x hx
      have hji : (j : Int) < (ps.length : Int) := by omega
      have hwj : IntKind.i64.wrap ((j : Int) + 1) = (j : Int) + 1 := by rw [IntKind.wrap_i64]; omega
      have k0 := e1h.out.cell (hr 0 (.string (str x.n)) rfl)
      have k1 := e1h.out.cell (hr 1 (.string (str x.v)) rfl)
      rw [Nat.add_zero] at k0
      by_cases h6 : (60 : Int) < (x.n.length : Int)
      · have d6 : decide ((60 : Int) < (x.n.length : Int)) = true := decide_eq_true h6
        clear hr hx
        go_wp2
        go_ret
        exact ⟨rfl, e1h.out⟩
      have d6 : decide ((60 : Int) < (x.n.length : Int)) = false := decide_eq_false h6
      by_cases h4 : (400 : Int) < (x.v.length : Int)
      · have d4 : decide ((400 : Int) < (x.v.length : Int)) = true := decide_eq_true h4
        clear hr hx
        go_wp2
        go_ret
        exact ⟨rfl, e1h.out⟩
      have d4 : decide ((400 : Int) < (x.v.length : Int)) = false := decide_eq_false h4
      have hs2 := Lib.hid (fun q y (hq : q < j + 1) (hy : ps[q]? = some y) => (if e : q = j then by subst e; rw [hx] at hy; cases hy; omega else hs.out q y (by omega) hy : y.n.length ≤ 60 ∧ y.v.length ≤ 400))
      clear hr hx hs h6 h4
      go_wp2
      go_round
      case rel => exact ⟨j + 1, by omega, by go_num, hs2⟩
      case measure => simp [intOf]; omega
    · obtain rfl : j = ps.length := by omega
      have hsz : ∀ p ∈ ps, p.n.length ≤ 1000 ∧ p.v.length ≤ 1000 := fun p hp => by
        obtain ⟨q, hq⟩ := List.getElem?_of_mem hp
        have := hs.out q p (List.getElem?_eq_some_iff.1 hq).1 hq
        omega
      have hL := load_any z _ ps W1 (hph.out.ext e1h.out) hsz (hwh.out.ext e1h.out)
      have hR := Lib.hid (fun W (e : Ext W1 W) => refLoad_any z _ ps W ((hph.out.ext e1h.out).ext e) hsz)
      rw [loop_load] at hL
      have hroom := Lib.hid (roomN_le z)
      generalize roomN z = room at *
      clear hs hsz
      cases hlo : loadL room ps with
      | none =>
        rw [hlo] at hL hR
        go_upto_region 11 with (first
          | (go_at_call 46; refine hL.mono ?_; rintro e W2 (⟨t, p, h, -⟩ | ⟨-, rfl, e2⟩); · cases h)
          | (go_at_call 47; refine (hR.out _ e2).mono ?_; rintro e W3 (⟨t, p, h, -⟩ | ⟨-, rfl, e3⟩); · cases h))
        have e03 := Lib.hid ((e1h.out.trans e2).trans e3)
        go_upto_region 13 with fail
        go_quiet (fail)
        go_wp2
        go_ret
        exact ⟨rfl, e03.out.trans (Ext.drewM _ nq)⟩
      | some T =>
        rw [hlo] at hL hR
        have hR2 := Lib.hid (fun W (e : Ext W1 W) => (hR.out W e).mono (R' := fun e w' => ∃ q, e = .returned (.tuple #[.pointer (some ⟨q, 0, none⟩), .int .i64 0]) ∧ TrD W w' q room T) fun e w' h => by
          rcases h with ⟨t, q, h1, h2, h3⟩ | ⟨h, -⟩
          · cases h1; exact ⟨q, h2, h3⟩
          · cases h)
        have hL2 := hL.mono (R' := fun e w' => ∃ p, e = .returned (.tuple #[.pointer (some ⟨p, 0, none⟩), .int .i64 0]) ∧ TrB W1 w' p room T) fun e w' h => by
          rcases h with ⟨t, q, h1, h2, h3⟩ | ⟨h, -⟩
          · cases h1; exact ⟨q, h2, h3⟩
          · cases h
        clear hL hR
        go_upto_region 11 with (first
          | (go_at_call 46; refine hL2.mono ?_; rintro e W2 ⟨p, rfl, t2⟩)
          | (go_at_call 47; refine (hR2.out _ t2.2).mono ?_; rintro e W3 ⟨q, rfl, t3⟩))
        have e03 := Lib.hid ((e1h.out.trans t2.2).trans t3.2)
        have tp := Lib.hid (t2.ext t3.2).1
        have tq := Lib.hid t3.1
        have hlT := Lib.hid (show T.length ≤ 64 from by
          unfold loadL at hlo
          split at hlo
          · cases hlo; exact (St.it ps ps.length (St.nil hroom.out)).small
          · cases hlo)
        obtain ⟨aq, cq, -, hq1, rq⟩ := t3.1.parts
        have hS := Lib.hid (fun W (e : Ext W3 W) => (e.cell hq1 : W.cell? ⟨q, 1, none⟩ = some (.slice aq T.length cq)))
        have rqh := Lib.hid rq
        clear hL2 hR2 t2 t3 hq1 rq hlo
        go_upto_region 13 with fail
        go_region_held3 (fun W => W.cell? ⟨q, 1, none⟩ = some (.slice aq T.length cq)) ((refine hS.out _ ?_; (repeat (first | exact Ext.refl _ | with_reducible assumption | refine Ext.drew ?_ | refine Ext.alloc ?_ _ | refine Ext.trans ?_ (by assumption)))))
          ((first
          | (go_at_call 25; refine (all_any (tp.out.ext (by (repeat (first | exact Ext.refl _ | with_reducible assumption | refine Ext.drew ?_ | refine Ext.alloc ?_ _ | refine Ext.trans ?_ (by assumption))))) (by have := hlT.out; omega)).mono ?_; rintro e w8 ⟨v8, rfl, o8, ⟨a8, c8, rfl⟩, e8⟩)
          | (go_at_call 24; refine (records_same _ _ T _ o8.recs (rqh.out.ext (by (repeat (first | exact Ext.refl _ | with_reducible assumption | refine Ext.drew ?_ | refine Ext.alloc ?_ _ | refine Ext.trans ?_ (by assumption)))))).mono ?_; rintro e w9 ⟨rfl, e9⟩)))
        all_goals
          go_wp2
          go_ret
          exact ⟨rfl, e03.out.trans (by (repeat (first | exact Ext.refl _ | with_reducible assumption | refine Ext.drew ?_ | refine Ext.alloc ?_ _ | refine Ext.trans ?_ (by assumption))))⟩
end Go.Proofs.YtmdepmohfnficaaDoor
