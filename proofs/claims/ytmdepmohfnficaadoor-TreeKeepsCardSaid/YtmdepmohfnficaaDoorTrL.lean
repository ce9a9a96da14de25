/- Package tree: New, Copy, Add, Put. -/
import Derived.Test.YtmdepmohfnficaaDoorGTr
import Derived.Deep.RegionHeld3
import Derived.Deep.RegionWith
import Derived.Deep.RegionLawGrows
namespace Go.Proofs.YtmdepmohfnficaaDoor
set_option linter.unusedVariables false
set_option linter.unusedSimpArgs false
open Go.RowKit Rk Tr

namespace Tr
def roomN (z : Int) : Nat := (max 0 (min z 64)).toNat
theorem roomN_eq (z : Int) : ((roomN z : Nat) : Int) = max 0 (min z 64) := by unfold roomN; omega
theorem roomN_le (z : Int) : roomN z ≤ 64 := by unfold roomN; omega
end Tr
attribute [local irreducible] rcells
theorem new_tr {T : TypeId} {x : Int} {r : Nat} (h : x = (r : Int)) (w : World) : TrM T (w.alloc (.cells #[.int .i64 x, .slice none 0 0] T)) (fun k => k = w.heap.size) w.heap.size r [] := by
  subst h
  exact ⟨_, heap_alloc_new _ _, rfl, OwnR.nil _ _⟩
theorem new_any (z : Int) (w : World) :
    Calls Tryd.prog 36 #[.int .i64 z] w (Ret fun u w' => u = .pointer (some ⟨w.heap.size, 0, none⟩) ∧ TrM 96 w' (fun k => k = w.heap.size) w.heap.size (roomN z) [] ∧ Ext w w') := by
  have e0 := Ext.refl w
  go_enter Tryd.func36, Tryd.ntmps36
  go_wp2
  all_goals go_ret
  all_goals exact Ret.mk ⟨rfl, new_tr (by rw [roomN_eq]; omega) w, e0.alloc _⟩
set_option maxRecDepth 20000 in
set_option maxHeartbeats 1000000 in
theorem copy_any {F : Nat → Prop} {p room : Nat} {l : List Rec} {w : World} (h : TrM 96 w F p room l) (hl : l.length ≤ 1000) :
    Calls Tryd.prog 23 #[.pointer (some ⟨p, 0, none⟩)] w (Ret fun u w' => ∃ q, u = .pointer (some ⟨q, 0, none⟩) ∧ TrM 96 w' (fun k => w.heap.size ≤ k) q room l ∧ Ext w w') := by
  obtain ⟨a, cap, c0, c1, hr⟩ := h.parts
  have hC := Lib.hid (fun W (e : Ext w W) => clone_any _ l W (hr.ext e) hl)
  have C0 := Lib.hid (fun W (e : Ext w W) => e.cell c0)
  have C1 := Lib.hid (fun W (e : Ext w W) => e.cell c1)
  clear h hr
  go_enter Tryd.func23, Tryd.ntmps23
  go_upto_region 1 with fail
  clear c0 c1
  go_region_held3 (fun W => W.cell? ⟨p, 0, none⟩ = some (.int .i64 (room : Int)) ∧ W.cell? ⟨p, 1, none⟩ = some (.slice a l.length cap))
    ((refine (⟨C0.out _ ?_, C1.out _ ?_⟩) <;> (repeat (first | exact Ext.refl _ | with_reducible assumption | refine Ext.drew ?_ | refine Ext.alloc ?_ _ | refine Ext.trans ?_ (by assumption)))))
    (first
      | (go_at_call 62; refine (hC.out _ (by (repeat (first | exact Ext.refl _ | with_reducible assumption | refine Ext.drew ?_ | refine Ext.alloc ?_ _ | refine Ext.trans ?_ (by assumption))))).mono ?_; rintro e w3 ⟨v3, rfl, ho3, ⟨a3, c3, rfl⟩, e3⟩))
  have e03 : Ext w w3 := (Ext.refl w).drew.trans e3
  have hn := heap_alloc_new w3 (.cells #[.int .i64 (room : Int), .slice a3 l.length c3] 96)
  have ho4 := Lib.hid (ho3.ext ((Ext.refl w3).alloc (.cells #[.int .i64 (room : Int), .slice a3 l.length c3] 96)))
  have e04 := Lib.hid (e03.alloc (.cells #[.int .i64 (room : Int), .slice a3 l.length c3] 96))
  have hs := Lib.hid e03.size
  have hnh := Lib.hid hn
  clear hn ho3 e3 e03
  go_wp2
  go_ret
  exact Ret.mk ⟨_, rfl, ⟨_, hnh.out, hs.out, ho4.out⟩, e04.out⟩
/-- what Add answers, and leaves -/
def addE (room : Nat) (l : List Rec) (r : Rec) : Int := if rightI r = false then 1 else if isIn l r.name = true then 7 else if r.par ≠ [] ∧ isIn l r.par = false then 6 else if room ≤ l.length then 5 else 0
def addL (room : Nat) (l : List Rec) (r : Rec) : List Rec := if addE room l r = 0 then l ++ [r] else l
/-- what Put answers, and leaves -/
def putE (l : List Rec) (r : Rec) : Int := if rightI r = false then 1 else match ix l r.name with
  | none => 6
  | some i => if seq (l.getD i zero).par r.par = false then 8 else 0
def putL (l : List Rec) (r : Rec) : List Rec := if putE l r = 0 then match ix l r.name with
  | none => l
  | some i => l.set i r else l
theorem right_rc (r : Rec) (hf : Fits r) (w : World) (hw : Pres w) : Calls Tryd.prog 84 #[.agg (rcells r)] w fun e w' => e = .returned (.bool (rightI r)) ∧ Ext w w' := right_r r hf w hw
theorem OwnR.not {w : World} {F : Nat → Prop} {v : Value} {l : List Rec} {p : Nat} {cs : Array Value} {T : TypeId} (h : OwnR w F v l) (hp : w.heap[p]? = some (.cells cs T (0, 0))) (hT : T ≠ 36) : OwnR w (fun k => F k ∧ k ≠ p) v l := by
  obtain ⟨⟨⟨h1, h⟩, h2⟩, hf⟩ := h
  refine ⟨⟨⟨h1, h⟩, fun k hk => ⟨h2 k hk, fun e => ?_⟩⟩, hf⟩
  rcases h with ⟨rfl, hn⟩ | ⟨g, cap, cur, rfl, hb, hh, -⟩
  · simp [Value.ownBlock] at hk
  · simp [Value.ownBlock] at hk
    subst hk
    subst e
    rw [hh] at hp
    simp only [Option.some.injEq, Obj.cells.injEq] at hp
    exact hT hp.2.1.symm
attribute [local semireducible] rcells
theorem rc_lit (r : Rec) : rcells r = #[.int .i64 r.kind, .string (str r.name), .string (str r.par), .string (str r.user), .string (str r.serv), .string (str r.url), .int .i64 r.made, .int .i64 r.used, .int .i64 r.uses, .bool r.fresh] := rfl
theorem rc_all {r : Rec} {w : World} {B : Nat} (h : w.heap[B]? = some (.cells (rcells r) 36 (0, 0))) : w.cell? ⟨B, 0, none⟩ = some (.int .i64 r.kind) ∧ w.cell? ⟨B, 1, none⟩ = some (.string (str r.name)) ∧ w.cell? ⟨B, 2, none⟩ = some (.string (str r.par)) ∧ w.cell? ⟨B, 3, none⟩ = some (.string (str r.user)) ∧ w.cell? ⟨B, 4, none⟩ = some (.string (str r.serv)) ∧ w.cell? ⟨B, 5, none⟩ = some (.string (str r.url)) ∧ w.cell? ⟨B, 6, none⟩ = some (.int .i64 r.made) ∧ w.cell? ⟨B, 7, none⟩ = some (.int .i64 r.used) ∧ w.cell? ⟨B, 8, none⟩ = some (.int .i64 r.uses) ∧ w.cell? ⟨B, 9, none⟩ = some (.bool r.fresh) :=
  ⟨cell_at h 0 rfl, cell_at h 1 rfl, cell_at h 2 rfl, cell_at h 3 rfl, cell_at h 4 rfl, cell_at h 5 rfl, cell_at h 6 rfl, cell_at h 7 rfl, cell_at h 8 rfl, cell_at h 9 rfl⟩
attribute [local irreducible] rcells
theorem step_appendR {ops : Array Oper} {o : Oper} {a : Act} {w : World} {K : Act → World → Prop} {Q : Exit → Act → World → Prop} {E : Prop} (hgd : o.guard = none) (s x : Operand)
    (ho : o.op = .call { callee := .builtin .append, args := #[s, x], argTypes := #[22, 22] })
    (F : Nat → Prop) (v : Value) (l : List Rec) (hs : a.eval s = v) (hown : OwnR w F v l) (u : Value) (m : List Rec) (hx : a.eval x = u) (hb : Recs w u m) (hlen : l.length + m.length ≤ 1048576)
    (h : ∀ v' w', OwnR w' (fun k => F k ∨ w.heap.size ≤ k) v' (l ++ m) → Chg F w w' → K (a.put o.dst v') w') :
    if Region.wanted o (yielded ops a.tmps) = true then Oper.wp Tryd.prog o a w K Q else E := by
  have hw : Region.wanted o (yielded ops a.tmps) = true := by simp [Region.wanted, hgd]
  rw [if_pos hw]
  obtain ⟨v', w', hr, h2, h3⟩ := run_appendR o.type w F v l hown u m hb hlen
  unfold Oper.wp execOp
  simp only [ho, resolve, invoke, builtin, Sem.run_bind, Sem.run_pure, Result.andThen_ok, List.map_toArray, List.map_cons, List.map_nil, hs, hx, hr]
  exact h v' w' h2 h3
set_option maxRecDepth 20000 in
set_option maxHeartbeats 2000000 in
theorem add_any {F : Nat → Prop} {p room : Nat} {l : List Rec} (r : Rec) {w : World} (h : TrM 96 w F p room l) (hf : Fits r) (hw : Pres w) (hl : l.length ≤ 1000) :
    Calls Tryd.prog 57 #[.pointer (some ⟨p, 0, none⟩), .agg (rcells r)] w fun e w' => e = .returned (.int .i64 (addE room l r)) ∧ TrM 96 w' (fun k => F k ∨ w.heap.size ≤ k) p room (addL room l r) ∧ Chg F w w' := by
  have e1 := (Ext.refl w).alloc (.cells (rcells r) 36)
  have hb := heap_alloc_new w (.cells (rcells r) 36)
  have k1 := cell_at hb 1 (rc_cells r).2.1
  have k2 := cell_at hb 2 (rc_cells r).2.2
  have hth := Lib.hid h.lt
  have hat := Lib.hid (fun m W (e : Ext w W) => at_any m (h.ext e))
  have hRr := Lib.hid (fun W (e : Ext w W) => right_rc r hf W (hw.ext e))
  have hfh := Lib.hid hf
  have hbh := Lib.hid hb
  have e1h := Lib.hid e1
  have k1h := Lib.hid (fun W (e : Ext (w.alloc (.cells (rcells r) 36)) W) => e.cell k1)
  have k2h := Lib.hid (fun W (e : Ext (w.alloc (.cells (rcells r) 36)) W) => e.cell k2)
  have hB := Lib.hid (fun W (e : Ext (w.alloc (.cells (rcells r) 36)) W) => e.heap hb)
  clear h hf hw hb e1
  cases hr : rightI r
  · have hn := Lib.hid (show addE room l r = 1 from by unfold addE; rw [hr]; rfl)
    have hL := Lib.hid (show addL room l r = l from by unfold addL; rw [hn.out]; rfl)
    go_enter Tryd.func57, Tryd.ntmps57
    go_wp2_with (first
      | (refine wpList_load_row rfl 36 _ rfl w.heap.size rfl 36 (rcells r) (0, 0) _ hbh.out Tryd.underlying36 rfl (rc_sz r) ?_)
      | (go_at_call 84; refine (hRr.out _ e1h.out).mono ?_; rw [hr]; rintro e w2 ⟨rfl, e2⟩))
    go_ret
    exact ⟨by rw [hn.out]; rfl, by rw [hL.out]; exact (hth.out.ext (e1h.out.trans e2)).mono fun k hk => .inl hk.1, Chg.of_ext (e1h.out.trans e2)⟩
  go_enter Tryd.func57, Tryd.ntmps57
  go_upto_region 3 with (first
    | (refine wpList_load_row rfl 36 _ rfl w.heap.size rfl 36 (rcells r) (0, 0) _ hbh.out Tryd.underlying36 rfl (rc_sz r) ?_)
    | (go_at_call 84; refine (hRr.out _ e1h.out).mono ?_; rw [hr]; rintro e w2 ⟨rfl, e2⟩))
  have d1 := k1h.out _ e2
  rcases atI_cases l r.name with ⟨h1, h2⟩ | ⟨i, x, h1, h2, h3, -⟩
  rotate_left
  · have hn := Lib.hid (show addE room l r = 7 from by unfold addE isIn; rw [hr, h1]; rfl)
    have hL := Lib.hid (show addL room l r = l from by unfold addL; rw [hn.out]; rfl)
    have hi0 : (0 : Int) ≤ (i : Int) := by omega
    go_wp2_with (go_at_call 61; refine (hat.out r.name _ (e1h.out.trans e2)).mono ?_; rw [h2]; rintro e w3 ⟨rfl, e3⟩)
    go_ret
    exact ⟨by rw [hn.out]; rfl, by rw [hL.out]; exact (hth.out.ext ((e1h.out.trans e2).trans e3)).mono fun k hk => .inl hk.1, Chg.of_ext ((e1h.out.trans e2).trans e3)⟩
  have hin := Lib.hid (show isIn l r.name = false from by unfold isIn; rw [h1]; rfl)
  clear h1
  go_upto_region 5 with (go_at_call 61; refine (hat.out r.name _ (e1h.out.trans e2)).mono ?_; rw [h2]; rintro e w3 ⟨rfl, e3⟩)
  have e13 := Lib.hid (e2.trans e3)
  have d2 := k2h.out _ e13.out
  have e03 := Lib.hid (e1h.out.trans e13.out)
  clear d1 e2 e3 h2 hRr k1h
  cases hp0 : seq r.par []
  · have hpn : r.par ≠ [] := seq_false.1 hp0
    rcases atI_cases l r.par with ⟨h1, h2⟩ | ⟨i, x, h1, h2, h3, -⟩
    · have hn := Lib.hid (show addE room l r = 6 from by unfold addE; rw [hr, hin.out]; unfold isIn; rw [h1]; simp [hpn])
      have hL := Lib.hid (show addL room l r = l from by unfold addL; rw [hn.out]; rfl)
      go_wp2_with (go_at_call 61; refine (hat.out r.par _ e03.out).mono ?_; rw [h2]; rintro e w4 ⟨rfl, e4⟩)
      go_ret
      exact ⟨by rw [hn.out]; rfl, by rw [hL.out]; exact (hth.out.ext (e03.out.trans e4)).mono fun k hk => .inl hk.1, Chg.of_ext (e03.out.trans e4)⟩
    · have hpar := Lib.hid (show (r.par ≠ [] ∧ isIn l r.par = false) = False from by unfold isIn; rw [h1]; simp)
      have hi0 : ¬ (i : Int) < 0 := by omega
      go_upto_region 7 with (go_at_call 61; refine (hat.out r.par _ e03.out).mono ?_; rw [h2]; rintro e w4 ⟨rfl, e4⟩)
      have eW := e03.out.trans e4
      have eB := Lib.hid (e13.out.trans e4)
      clear h1 h2 h3 d2 e4 hpn e03 e13
      obtain ⟨v0, hv0, hFp, hov0⟩ := hth.out.ext eW
      have hov := hov0.not hv0 (by decide)
      obtain ⟨a, cap, rfl⟩ := hov.shape
      have cp := cell_at hv0 1 rfl
      have cr := cell_at hv0 0 rfl
      by_cases hroom : room ≤ l.length
      · have hn := Lib.hid (show addE room l r = 5 from by unfold addE; rw [hr, hin.out]; simp only [hpar.out, if_false, Bool.true_eq_false, Bool.false_eq_true]; rw [if_pos hroom])
        have hL := Lib.hid (show addL room l r = l from by unfold addL; rw [hn.out]; rfl)
        have hri : ((l.length : Int) < (room : Int)) = False := by simp; omega
        have hri2 : (room : Int) ≤ (l.length : Int) := by omega
        go_upto_region 7 with fail
        go_region
        go_wp2
        go_ret
        exact ⟨by rw [hn.out]; rfl, by rw [hL.out]; exact (hth.out.ext eW.drew).mono fun k hk => .inl hk.1, Chg.of_ext eW.drew⟩
      · have hn := Lib.hid (show addE room l r = 0 from by unfold addE; rw [hr, hin.out]; simp only [hpar.out, if_false, Bool.true_eq_false, Bool.false_eq_true]; rw [if_neg hroom])
        have hL := Lib.hid (show addL room l r = l ++ [r] from by unfold addL; rw [hn.out]; rfl)
        have hri : ¬ (room : Int) ≤ (l.length : Int) := by omega
        have hri2 : (l.length : Int) < (room : Int) := by omega
        go_upto_region 7 with fail
        go_region
        go_upto_region 9 with fail
        have eD := eW.drew
        have hBD := hB.out w4.drew eB.out.drew
        have hovD := Lib.hid (hov.ext (Ext.refl w4).drew)
        have hv0D := (Ext.refl w4).drew.heap hv0
        clear cp cr hv0 hov hov0 eW eB
        generalize w4.drew = WD at *
        have CP := Lib.hid (fun W (e : Ext WD W) => e.cell (cell_at hv0D 1 rfl))
        have RC := Lib.hid (fun W (e : Ext WD W) => rc_all (e.heap hBD))
        have hpW : p < w.heap.size := hFp.2
        have CP5 := Lib.hid (fun W W' (e : Ext WD W) (c : Chg (fun k => (F k ∧ k < w.heap.size) ∧ k ≠ p) W W') => cell_at ((c.block p (Nat.lt_of_lt_of_le (Nat.lt_of_lt_of_le hpW eD.size) e.size) (fun h => h.2 rfl)).trans (e.heap hv0D)) 1 rfl)
        have RC5 := Lib.hid (fun W W' (e : Ext WD W) (c : Chg (fun k => (F k ∧ k < w.heap.size) ∧ k ≠ p) W W') => rc_all ((c.block w.heap.size (Nat.lt_of_lt_of_le (Array.getElem?_eq_some_iff.1 hBD).1 e.size) (fun h => absurd h.1.2 (Nat.lt_irrefl _))).trans (e.heap hBD)))
        have hv0h := Lib.hid hv0D
        have eDh := Lib.hid eD
        have hsD := eD.size
        clear hBD hv0D eD
        obtain ⟨r0, r1, r2, r3, r4, r5, r6, r7, r8, r9⟩ := RC.out WD (Ext.refl _)
        have cp : WD.cell? ⟨p, 1, none⟩ = some (.slice a l.length cap) := CP.out WD (Ext.refl _)
        have cpA : ∀ o, (WD.alloc o).cell? ⟨p, 1, none⟩ = some (.slice a l.length cap) := fun o => CP.out _ ((Ext.refl WD).alloc o)
        go_region_law (refine step_appendR rfl _ _ rfl (fun k => (F k ∧ k < w.heap.size) ∧ k ≠ p) _ l rfl (by refine OwnR.ext hovD.out ?_; (repeat (first | exact Ext.refl _ | with_reducible assumption | refine Ext.drew ?_ | refine Ext.alloc ?_ _ | refine Ext.trans ?_ (by assumption)))) _ [r] rfl (Recs.one rfl (rc_lit r).symm hfh.out) (by simp only [List.length_singleton]; omega) ?_; intro v5 w5 o5 c5; obtain ⟨a5, cap5, rfl⟩ := o5.shape; have cA : Chg (fun k => (F k ∧ k < w.heap.size) ∧ k ≠ p) WD w5 := (Chg.of_ext (by (repeat (first | exact Ext.refl _ | with_reducible assumption | refine Ext.drew ?_ | refine Ext.alloc ?_ _ | refine Ext.trans ?_ (by assumption))))).trans c5; have o5 := o5.mono (G := fun k => ((F k ∧ k < w.heap.size) ∧ k ≠ p) ∨ WD.heap.size ≤ k) (fun k hk => hk.imp id fun h => Nat.le_trans (Below.size (by (repeat (first | exact Ext.refl _ | with_reducible assumption | refine Ext.drew ?_ | refine Ext.alloc ?_ _ | refine Ext.trans ?_ (by assumption))) : Ext WD _)) h); have hp5 := (c5.block p (Nat.lt_of_lt_of_le (Nat.lt_of_lt_of_le hpW hsD) (Below.size (by (repeat (first | exact Ext.refl _ | with_reducible assumption | refine Ext.drew ?_ | refine Ext.alloc ?_ _ | refine Ext.trans ?_ (by assumption))) : Ext WD _))) (fun h => h.2 rfl)).trans ((by (repeat (first | exact Ext.refl _ | with_reducible assumption | refine Ext.drew ?_ | refine Ext.alloc ?_ _ | refine Ext.trans ?_ (by assumption))) : Ext WD _).heap hv0h.out); have cp5 := cell_at hp5 1 rfl; have fp5 : w5.frozen? ⟨p, 1, none⟩ = false := frozen_of_row w5 p 1 _ _ hp5)
        all_goals
          rw [List.length_append, List.length_singleton] at o5
          have hp6 := heap_setCell_same w5 p 1 _ _ (.slice a5 (l.length + 1) cap5) hp5
          have c56 : Chg (fun k => k = p) w5 (w5.setCell ⟨p, 1, none⟩ (.slice a5 (l.length + 1) cap5)) := (Chg.refl (fun k => k = p) w5).setCell (x := ⟨p, 1, none⟩) (fun _ => rfl) _
          generalize w5.setCell ⟨p, 1, none⟩ (.slice a5 (l.length + 1) cap5) = w6 at *
          have o6 := Lib.hid (o5.chg c56 fun g cur hg hF e => by
            rcases hF with h | h
            · exact h.2 e
            · omega)
          have hch := Lib.hid (((Chg.of_ext eDh.out : Chg F w WD).then cA (fun k _ h => h.1.1)).then c56 (fun k _ h => by rw [h]; exact hFp.1))
          have hp6h := Lib.hid hp6
          clear hp6 c56 o5 cA c5 hp5 cp5 fp5 cp cpA r0 r1 r2 r3 r4 r5 r6 r7 r8 r9
          go_wp2
          go_ret
          refine ⟨by rw [hn.out]; rfl, ⟨_, hp6h.out, .inl hFp.1, ?_⟩, hch.out⟩
          rw [hL.out]
          exact o6.out.mono fun k hk => hk.imp (fun h => h.1.1) fun h => Nat.le_trans hsD h
  · have hpn : r.par = [] := seq_true.1 hp0
    have hpar := Lib.hid (show (r.par ≠ [] ∧ isIn l r.par = false) = False from by simp [hpn])
    go_upto_region 7 with fail
    have eW := e03.out
    have eB := e13
    clear d2 hpn e03 e13
    obtain ⟨v0, hv0, hFp, hov0⟩ := hth.out.ext eW
    have hov := hov0.not hv0 (by decide)
    obtain ⟨a, cap, rfl⟩ := hov.shape
    have cp := cell_at hv0 1 rfl
    have cr := cell_at hv0 0 rfl
    by_cases hroom : room ≤ l.length
    · have hn := Lib.hid (show addE room l r = 5 from by unfold addE; rw [hr, hin.out]; simp only [hpar.out, if_false, Bool.true_eq_false, Bool.false_eq_true]; rw [if_pos hroom])
      have hL := Lib.hid (show addL room l r = l from by unfold addL; rw [hn.out]; rfl)
      have hri : ((l.length : Int) < (room : Int)) = False := by simp; omega
      have hri2 : (room : Int) ≤ (l.length : Int) := by omega
      go_upto_region 7 with fail
      go_region
      go_wp2
      go_ret
      exact ⟨by rw [hn.out]; rfl, by rw [hL.out]; exact (hth.out.ext eW.drew).mono fun k hk => .inl hk.1, Chg.of_ext eW.drew⟩
    · have hn := Lib.hid (show addE room l r = 0 from by unfold addE; rw [hr, hin.out]; simp only [hpar.out, if_false, Bool.true_eq_false, Bool.false_eq_true]; rw [if_neg hroom])
      have hL := Lib.hid (show addL room l r = l ++ [r] from by unfold addL; rw [hn.out]; rfl)
      have hri : ¬ (room : Int) ≤ (l.length : Int) := by omega
      have hri2 : (l.length : Int) < (room : Int) := by omega
      go_upto_region 7 with fail
      go_region
      go_upto_region 9 with fail
      have eD := eW.drew
      have hBD := hB.out w3.drew eB.out.drew
      have hovD := Lib.hid (hov.ext (Ext.refl w3).drew)
      have hv0D := (Ext.refl w3).drew.heap hv0
      clear cp cr hv0 hov hov0 eW eB
      generalize w3.drew = WD at *
      have CP := Lib.hid (fun W (e : Ext WD W) => e.cell (cell_at hv0D 1 rfl))
      have RC := Lib.hid (fun W (e : Ext WD W) => rc_all (e.heap hBD))
      have hpW : p < w.heap.size := hFp.2
      have CP5 := Lib.hid (fun W W' (e : Ext WD W) (c : Chg (fun k => (F k ∧ k < w.heap.size) ∧ k ≠ p) W W') => cell_at ((c.block p (Nat.lt_of_lt_of_le (Nat.lt_of_lt_of_le hpW eD.size) e.size) (fun h => h.2 rfl)).trans (e.heap hv0D)) 1 rfl)
      have RC5 := Lib.hid (fun W W' (e : Ext WD W) (c : Chg (fun k => (F k ∧ k < w.heap.size) ∧ k ≠ p) W W') => rc_all ((c.block w.heap.size (Nat.lt_of_lt_of_le (Array.getElem?_eq_some_iff.1 hBD).1 e.size) (fun h => absurd h.1.2 (Nat.lt_irrefl _))).trans (e.heap hBD)))
      have hv0h := Lib.hid hv0D
      have eDh := Lib.hid eD
      have hsD := eD.size
      clear hBD hv0D eD
      obtain ⟨r0, r1, r2, r3, r4, r5, r6, r7, r8, r9⟩ := RC.out WD (Ext.refl _)
      have cp : WD.cell? ⟨p, 1, none⟩ = some (.slice a l.length cap) := CP.out WD (Ext.refl _)
      have cpA : ∀ o, (WD.alloc o).cell? ⟨p, 1, none⟩ = some (.slice a l.length cap) := fun o => CP.out _ ((Ext.refl WD).alloc o)
      go_region_law (refine step_appendR rfl _ _ rfl (fun k => (F k ∧ k < w.heap.size) ∧ k ≠ p) _ l rfl (by refine OwnR.ext hovD.out ?_; (repeat (first | exact Ext.refl _ | with_reducible assumption | refine Ext.drew ?_ | refine Ext.alloc ?_ _ | refine Ext.trans ?_ (by assumption)))) _ [r] rfl (Recs.one rfl (rc_lit r).symm hfh.out) (by simp only [List.length_singleton]; omega) ?_; intro v5 w5 o5 c5; obtain ⟨a5, cap5, rfl⟩ := o5.shape; have cA : Chg (fun k => (F k ∧ k < w.heap.size) ∧ k ≠ p) WD w5 := (Chg.of_ext (by (repeat (first | exact Ext.refl _ | with_reducible assumption | refine Ext.drew ?_ | refine Ext.alloc ?_ _ | refine Ext.trans ?_ (by assumption))))).trans c5; have o5 := o5.mono (G := fun k => ((F k ∧ k < w.heap.size) ∧ k ≠ p) ∨ WD.heap.size ≤ k) (fun k hk => hk.imp id fun h => Nat.le_trans (Below.size (by (repeat (first | exact Ext.refl _ | with_reducible assumption | refine Ext.drew ?_ | refine Ext.alloc ?_ _ | refine Ext.trans ?_ (by assumption))) : Ext WD _)) h); have hp5 := (c5.block p (Nat.lt_of_lt_of_le (Nat.lt_of_lt_of_le hpW hsD) (Below.size (by (repeat (first | exact Ext.refl _ | with_reducible assumption | refine Ext.drew ?_ | refine Ext.alloc ?_ _ | refine Ext.trans ?_ (by assumption))) : Ext WD _))) (fun h => h.2 rfl)).trans ((by (repeat (first | exact Ext.refl _ | with_reducible assumption | refine Ext.drew ?_ | refine Ext.alloc ?_ _ | refine Ext.trans ?_ (by assumption))) : Ext WD _).heap hv0h.out); have cp5 := cell_at hp5 1 rfl; have fp5 : w5.frozen? ⟨p, 1, none⟩ = false := frozen_of_row w5 p 1 _ _ hp5)
      all_goals
        rw [List.length_append, List.length_singleton] at o5
        have hp6 := heap_setCell_same w5 p 1 _ _ (.slice a5 (l.length + 1) cap5) hp5
        have c56 : Chg (fun k => k = p) w5 (w5.setCell ⟨p, 1, none⟩ (.slice a5 (l.length + 1) cap5)) := (Chg.refl (fun k => k = p) w5).setCell (x := ⟨p, 1, none⟩) (fun _ => rfl) _
        generalize w5.setCell ⟨p, 1, none⟩ (.slice a5 (l.length + 1) cap5) = w6 at *
        have o6 := Lib.hid (o5.chg c56 fun g cur hg hF e => by
          rcases hF with h | h
          · exact h.2 e
          · omega)
        have hch := Lib.hid (((Chg.of_ext eDh.out : Chg F w WD).then cA (fun k _ h => h.1.1)).then c56 (fun k _ h => by rw [h]; exact hFp.1))
        have hp6h := Lib.hid hp6
        clear hp6 c56 o5 cA c5 hp5 cp5 fp5 cp cpA r0 r1 r2 r3 r4 r5 r6 r7 r8 r9
        go_wp2
        go_ret
        refine ⟨by rw [hn.out]; rfl, ⟨_, hp6h.out, .inl hFp.1, ?_⟩, hch.out⟩
        rw [hL.out]
        exact o6.out.mono fun k hk => hk.imp (fun h => h.1.1) fun h => Nat.le_trans hsD h
end Go.Proofs.YtmdepmohfnficaaDoor
