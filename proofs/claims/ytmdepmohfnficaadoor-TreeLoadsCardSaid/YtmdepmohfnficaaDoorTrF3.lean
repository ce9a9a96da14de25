/- The document's Load. -/
import Derived.Test.YtmdepmohfnficaaDoorTrF2
import Derived.Test.YtmdepmohfnficaaDoorTrE1
import Derived.Test.YtmdepmohfnficaaDoorRecI
namespace Go.Proofs.YtmdepmohfnficaaDoor
open Go.ChangeShapes Go.WideShapes Go.ChangeAt Go.RowKit Rk Tr

namespace Tr
/-- no two of the first keys are one -/
def Apart (ps : List Pr) (i : Nat) : Prop := ∀ (a b : Nat) (x y : Pr), a < b → b < i → ps[a]? = some x → ps[b]? = some y → x.n ≠ y.n
theorem apart_nodup : ∀ {ps : List Pr}, Apart ps ps.length → (ps.map (·.n)).Nodup
  | [], _ => List.nodup_nil
  | p :: ps, h => by
    rw [List.map_cons, List.nodup_cons]
    refine ⟨fun hm => ?_, apart_nodup fun a b x y hab hb hx hy => h (a + 1) (b + 1) x y (by omega) (by rw [List.length_cons]; omega) (by simpa using hx) (by simpa using hy)⟩
    obtain ⟨y, hy, e⟩ := List.mem_map.1 hm
    obtain ⟨j, hj⟩ := List.getElem?_of_mem hy
    have := (List.getElem?_eq_some_iff.1 hj).1
    exact h 0 (j + 1) p y (by omega) (by rw [List.length_cons]; omega) rfl (by simpa using hj) e.symm
theorem nodup_apart {ps : List Pr} (h : (ps.map (·.n)).Nodup) {a b : Nat} {x y : Pr} (hab : a ≠ b) (hx : ps[a]? = some x) (hy : ps[b]? = some y) : x.n ≠ y.n := fun e => hab (by
  have hk := (List.getElem?_eq_some_iff.1 hx).1
  exact (List.getElem?_inj (l := ps.map (·.n)) (by simpa using hk) h).1 (by rw [List.getElem?_map, List.getElem?_map, hx, hy]; simp [e]))
theorem loadL_long {room : Nat} {ps : List Pr} (h : ¬ ps.length ≤ room) : loadL room ps = none := by unfold loadL; rw [if_neg fun k => h k.1]
theorem loadL_bad {room : Nat} {ps : List Pr} {p : Pr} (hp : p ∈ ps) (h : pE p ≠ 0) : loadL room ps = none := by unfold loadL; rw [if_neg fun k => h (k.2.1 p hp)]
theorem loadL_twice {room : Nat} {ps : List Pr} {a b : Nat} {x y : Pr} (hab : a ≠ b) (hx : ps[a]? = some x) (hy : ps[b]? = some y) (e : x.n = y.n) : loadL room ps = none := by unfold loadL; rw [if_neg fun k => nodup_apart k.2.2.1 hab hx hy e]
theorem loadL_end {room : Nat} {ps : List Pr} (h1 : ps.length ≤ room) (h2 : ∀ j x, j < ps.length → ps[j]? = some x → pE x = 0) (h3 : Apart ps ps.length) : loadL room ps = if (itL room ps ps.length []).length < ps.length then none else some (itL room ps ps.length []) := by
  have hall : ∀ p ∈ ps, pE p = 0 := fun p hp => by
    obtain ⟨j, hj⟩ := List.getElem?_of_mem hp
    exact h2 j p (List.getElem?_eq_some_iff.1 hj).1 hj
  unfold loadL
  split
  · rename_i hc
    rw [if_neg (by have := hc.2.2.2; omega)]
  · rename_i hc
    rw [if_pos]
    exact Nat.lt_of_not_le fun hle => hc ⟨h1, hall, apart_nodup h3, hle⟩
theorem itL_snoc (room : Nat) (ps : List Pr) : ∀ (k : Nat) (t : List Rec), itL room ps (k + 1) t = rndL room ps (itL room ps k t)
  | 0, t => rfl
  | k + 1, t => by rw [itL, itL_snoc room ps k, itL]
theorem rndL_append (room : Nat) : ∀ (a b : List Pr) (t : List Rec), rndL room (a ++ b) t = rndL room b (rndL room a t)
  | [], _, _ => rfl
  | p :: a, b, t => by rw [List.cons_append, rndL, rndL, rndL_append room a b]
theorem rndL_step (room : Nat) {ps : List Pr} {k : Nat} {p : Pr} (h : ps[k]? = some p) (t : List Rec) : rndL room (ps.take (k + 1)) t = addL room (rndL room (ps.take k) t) (pR p) := by
  rw [List.take_add_one, h, rndL_append]; rfl
theorem St.rnd {room : Nat} : ∀ (qs : List Pr) {t : List Rec}, St room t → St room (rndL room qs t)
  | [], _, h => h
  | q :: qs, _, h => St.rnd qs (h.add (pR q))
theorem St.it {room : Nat} (ps : List Pr) : ∀ (k : Nat) {t : List Rec}, St room t → St room (itL room ps k t)
  | 0, _, h => h
  | k + 1, _, h => St.it ps k (St.rnd ps h)
end Tr
/-- the document's tree in blocks made since w0 -/
def TrD (w0 w : World) (p room : Nat) (l : List Rec) : Prop := TrM 34 w (fun k => w0.heap.size ≤ k) p room l ∧ Ext w0 w
theorem TrD.ext {w0 w w' : World} {p room : Nat} {l : List Rec} (h : TrD w0 w p room l) (e : Ext w w') : TrD w0 w' p room l := ⟨h.1.ext e, h.2.trans e⟩
theorem TrD.chg {w0 w w' : World} {p room : Nat} {l l' : List Rec} (h : TrD w0 w p room l) (k : TrM 34 w' (fun k => w0.heap.size ≤ k ∨ w.heap.size ≤ k) p room l') (c : Chg (fun k => w0.heap.size ≤ k) w w') : TrD w0 w' p room l' :=
  ⟨k.mono fun j hj => hj.elim id fun h' => Nat.le_trans h.2.size h', h.2.chg c fun _ h => h⟩
theorem step_store_row {P : Program} {ops : Array Oper} {o : Oper} {a : Act} {w : World} {K : Act → World → Prop} {Q : Exit → Act → World → Prop} {E : Prop} (hgd : o.guard = none) (ty : TypeId) (x y : Operand) (ho : o.op = .store ty x y)
    (g : Nat) (cells : Array Value) (hx : a.eval x = .pointer (some ⟨g, 0, none⟩)) (hy : a.eval y = .agg cells)
    (t : TypeId) (old : Array Value) (hg : w.heap[g]? = some (.cells old t (0, 0))) (hi : (P.info? ty).map (·.size) = some cells.size)
    (hold : old.size = cells.size) (h1 : cells.all (·.oneCell') = true) (h : K (a.put o.dst undef) (w.setRow g cells)) : if Region.wanted o (yielded ops a.tmps) = true then Oper.wp P o a w K Q else E := by
  have hw : Region.wanted o (yielded ops a.tmps) = true := by simp [Region.wanted, hgd]
  rw [if_pos hw]
  exact wp_store_row ty x y ho g cells hx hy t old hg hi hold h1 h
theorem refDecode_r (name s : List UInt8) (hn : name.length ≤ 1000) (hs : s.length ≤ 1000) (w : World) :
    Calls Tryd.prog 74 #[.string (str name), .string (str s)] w fun e w' => e = .returned (.tuple #[.agg (rcells (decR name s)), .int .i64 (decE name s)]) ∧ Ext w w' := refDecode_any name s hn hs w
attribute [local irreducible] rcells rndL itL loadL
set_option linter.unusedSimpArgs false in
set_option maxRecDepth 20000 in
set_option maxHeartbeats 4000000 in
theorem refLoad_any (z : Int) (v : Value) (ps : List Pr) (w : World) (h : Prs w v ps) (hsz : ∀ p ∈ ps, p.n.length ≤ 1000 ∧ p.v.length ≤ 1000) :
    Calls Tryd.prog 47 #[.int .i64 z, v] w fun e w' => (∃ (t : List Rec) (p : Nat), loadL (roomN z) ps = some t ∧ e = .returned (.tuple #[.pointer (some ⟨p, 0, none⟩), .int .i64 0]) ∧ TrD w w' p (roomN z) t) ∨ (loadL (roomN z) ps = none ∧ e = .returned (.tuple #[.pointer none, .int .i64 8]) ∧ Ext w w') := by
  obtain ⟨a, cap, rfl, hlm, hget⟩ := Rw.shape h
  have hgh := Lib.hid hget
  have hszh := Lib.hid hsz
  have hn := refNew_any z w
  have hroom := Lib.hid (roomN_le z)
  clear h hget hsz
  go_enter Tryd.func47, Tryd.ntmps47
  go_upto_region 2 with (go_at_call 37; refine hn.mono ?_; rintro e w1 ⟨_, rfl, rfl, h1, e1⟩)
  have hb : RowKit.Hid (TrD w w1 w.heap.size (roomN z) []) := Lib.hid ⟨h1.mono fun k hk => by omega, e1⟩
  obtain ⟨room, hro⟩ : ∃ room, room = roomN z := ⟨_, rfl⟩
  rw [← hro] at hb hroom
  have hroh := Lib.hid hro
  obtain ⟨P, hP⟩ : ∃ P, P = w.heap.size := ⟨_, rfl⟩
  rw [← hP] at hb ⊢
  clear hn h1 e1 hro hP
  obtain ⟨_, _, c0, -, -⟩ := hb.out.1.parts
  by_cases hlong : ps.length ≤ room
  rotate_left
  · have hli : (room : Int) < (ps.length : Int) := by omega
    have hno := Lib.hid (loadL_long hlong)
    go_wp2
    go_ret2
    exact .inr ⟨by rw [← hroh.out]; exact hno.out, rfl, hb.out.2⟩
  have hli : ¬ (room : Int) < (ps.length : Int) := by omega
  go_upto_region 4 with fail
  clear c0
  go_wp2
  go_loopw [7] (fun i wr => ∃ j : Nat, j ≤ ps.length ∧ i = .int .i64 (j : Int) ∧ RowKit.Hid (∀ q x, q < j → ps[q]? = some x → pE x = 0) ∧ RowKit.Hid (Apart ps j) ∧ RowKit.Hid (TrD w wr P room [])) (fun i _ => ps.length - (intOf i).toNat)
  case atStart => exact ⟨0, Nat.zero_le _, rfl, Lib.hid fun q x h => by omega, Lib.hid fun a b x y _ h => by omega, hb⟩
  case round =>
    obtain ⟨j, hj, rfl, hE, hAp, ht⟩ := hrel
    clear hb
    by_cases hjl : j < ps.length
    · obtain ⟨x, hx⟩ := some_at hjl
      obtain ⟨g, o, cs, rfl, hr, rfl, hfx⟩ := hgh.out j x hx
      have hji : (j : Int) < (ps.length : Int) := by omega
      have hwj : IntKind.i64.wrap ((j : Int) + 1) = (j : Int) + 1 := by rw [IntKind.wrap_i64]; omega
      have k0 := ht.out.2.cell (hr 0 (.string (str x.n)) rfl)
      have k1 := ht.out.2.cell (hr 1 (.string (str x.v)) rfl)
      rw [Nat.add_zero] at k0
      have hxl := hszh.out x (List.mem_of_getElem? hx)
      have hD := Lib.hid (fun W => refDecode_r x.n x.v hxl.1 hxl.2 W)
      have hEx : pE x = decE x.n x.v := rfl
      have hRx : pR x = decR x.n x.v := rfl
      rw [← hEx, ← hRx] at hD
      clear hEx hRx
      have hS := Lib.hid (fun W (e : Ext wr W) => (⟨e.cell k0, e.cell k1⟩ : W.cell? ⟨g, o + j * 2, none⟩ = some (.string (str x.n)) ∧ W.cell? ⟨g, o + j * 2 + 1, none⟩ = some (.string (str x.v))))
      go_upto_region 7 with fail
      go_cut [8, 9] (fun b e wd => ∃ B, b = .pointer (some ⟨B, 0, none⟩) ∧ e = .int .i64 (pE x) ∧ wd.heap[B]? = some (.cells (rcells (pR x)) 36 (0, 0)) ∧ Ext wr wd)
      case first =>
        -- BEGIN DECODE1
        refine wp_region_held_drew (S := (fun W => W.cell? ⟨g, o + j * 2, none⟩ = some (.string (str x.n)) ∧ W.cell? ⟨g, o + j * 2 + 1, none⟩ = some (.string (str x.v)))) (by kernel_rfl) ?_ (fun hHeld => ?_)
        · (refine hS.out _ ?_; (repeat (first | exact Ext.refl _ | with_reducible assumption | refine Ext.drew ?_ | refine Ext.alloc ?_ _ | refine Ext.trans ?_ (by assumption))))
        refine wpAnyH_take (i := 0) (v := ?_) rfl (by kernel_rfl) (by kernel_rfl) (by kernel_rfl) (fun _ _ _ h => h) (Or.inl ⟨by kernel_rfl, ?_⟩) (by assumption) ?_
        rotate_left
        · (intro w hSw; (try dsimp only at hSw); go_simp; try with_reducible rfl)
        try simp only [Act.put, List.setIfInBounds_toArray, List.set_cons_zero, List.set_cons_succ]
        refine wpAnyH_take (i := 1) (v := ?_) rfl (by kernel_rfl) (by kernel_rfl) (by kernel_rfl) (fun _ _ _ h => h) (Or.inl ⟨by kernel_rfl, ?_⟩) (by assumption) ?_
        rotate_left
        · (intro w hSw; (try dsimp only at hSw); go_simp; try with_reducible rfl)
        try simp only [Act.put, List.setIfInBounds_toArray, List.set_cons_zero, List.set_cons_succ]
        refine wpAnyH_take (i := 2) (v := ?_) rfl (by kernel_rfl) (by kernel_rfl) (by kernel_rfl) (fun _ _ _ h => h) (Or.inl ⟨by kernel_rfl, ?_⟩) (by assumption) ?_
        rotate_left
        · (intro w hSw; (try dsimp only at hSw); go_simp; try with_reducible rfl)
        try simp only [Act.put, List.setIfInBounds_toArray, List.set_cons_zero, List.set_cons_succ]
        refine wpAnyH_take (i := 3) (v := ?_) rfl (by kernel_rfl) (by kernel_rfl) (by kernel_rfl) (fun _ _ _ h => h) (Or.inl ⟨by kernel_rfl, ?_⟩) (by assumption) ?_
        rotate_left
        · (intro w hSw; (try dsimp only at hSw); go_simp; try with_reducible rfl)
        try simp only [Act.put, List.setIfInBounds_toArray, List.set_cons_zero, List.set_cons_succ]
        refine wpAnyH_take (i := 4) (v := ?_) rfl (by kernel_rfl) (by kernel_rfl) (by kernel_rfl) (fun _ _ _ h => h) (Or.inl ⟨by kernel_rfl, ?_⟩) (by assumption) ?_
        rotate_left
        · (intro w hSw; (try dsimp only at hSw); go_simp; try with_reducible rfl)
        try simp only [Act.put, List.setIfInBounds_toArray, List.set_cons_zero, List.set_cons_succ]
        refine wpAnyH_take (i := 5) (v := ?_) rfl (by kernel_rfl) (by kernel_rfl) (by kernel_rfl) (fun _ _ _ h => h) (Or.inl ⟨by kernel_rfl, ?_⟩) (by assumption) ?_
        rotate_left
        · (intro w hSw; (try dsimp only at hSw); go_simp; try with_reducible rfl)
        try simp only [Act.put, List.setIfInBounds_toArray, List.set_cons_zero, List.set_cons_succ]
        refine wpAnyH_take (i := 6) (v := ?_) rfl (by kernel_rfl) (by kernel_rfl) (by kernel_rfl) (fun _ _ _ h => h) (Or.inl ⟨by kernel_rfl, ?_⟩) (by assumption) ?_
        rotate_left
        · (intro w hSw; (try dsimp only at hSw); go_simp; try with_reducible rfl)
        try simp only [Act.put, List.setIfInBounds_toArray, List.set_cons_zero, List.set_cons_succ]
        refine wpAnyH_take (i := 7) (v := ?_) rfl (by kernel_rfl) (by kernel_rfl) (by kernel_rfl) (fun _ _ _ h => h) (Or.inl ⟨by kernel_rfl, ?_⟩) (by assumption) ?_
        rotate_left
        · (intro w hSw; (try dsimp only at hSw); go_simp; try with_reducible rfl)
        try simp only [Act.put, List.setIfInBounds_toArray, List.set_cons_zero, List.set_cons_succ]
        refine wpAnyH_take (i := 8) (v := ?_) rfl (by kernel_rfl) (by kernel_rfl) (by kernel_rfl) (fun _ _ _ h => h) (Or.inl ⟨by kernel_rfl, ?_⟩) (by assumption) ?_
        rotate_left
        · (intro w hSw; (try dsimp only at hSw); go_simp; try with_reducible rfl)
        try simp only [Act.put, List.setIfInBounds_toArray, List.set_cons_zero, List.set_cons_succ]
        refine wpAnyH_take (i := 9) (v := ?_) rfl (by kernel_rfl) (by kernel_rfl) (by kernel_rfl) (fun _ _ _ h => h) (Or.inl ⟨by kernel_rfl, ?_⟩) (by assumption) ?_
        rotate_left
        · (intro w hSw; (try dsimp only at hSw); go_simp; try with_reducible rfl)
        try simp only [Act.put, List.setIfInBounds_toArray, List.set_cons_zero, List.set_cons_succ]
        refine wpAnyH_ready (rs := [10, 14]) (by kernel_rfl) (by simp) ?_
        refine AllReadyH.cons rfl (fun K hK => ?_) ?_
        · go_simp
          (go_at_call 74; refine (hD.out _).mono ?_; rintro e W3 ⟨rfl, e3⟩)
          go_wp2_with fail
          clear hHeld
          refine hK.out _ _ ?_ (fun hHeld => ?_)
          · (refine hS.out _ ?_; (repeat (first | exact Ext.refl _ | with_reducible assumption | refine Ext.drew ?_ | refine Ext.alloc ?_ _ | refine Ext.trans ?_ (by assumption))))
          clear hK K
          try simp only [Act.put, List.setIfInBounds_toArray, List.set_cons_zero, List.set_cons_succ]
          refine wpAnyH_take (i := 11) (v := ?_) rfl (by kernel_rfl) (by kernel_rfl) (by kernel_rfl) (fun _ _ _ h => h) (Or.inl ⟨by kernel_rfl, ?_⟩) (by assumption) ?_
          rotate_left
          · (intro w hSw; (try dsimp only at hSw); go_simp; try with_reducible rfl)
          try simp only [Act.put, List.setIfInBounds_toArray, List.set_cons_zero, List.set_cons_succ]
          refine wpAnyH_take (i := 12) (v := ?_) rfl (by kernel_rfl) (by kernel_rfl) (by kernel_rfl) (fun _ _ _ h => h) (Or.inl ⟨by kernel_rfl, ?_⟩) (by assumption) ?_
          rotate_left
          · (intro w hSw; (try dsimp only at hSw); go_simp; try with_reducible rfl)
          try simp only [Act.put, List.setIfInBounds_toArray, List.set_cons_zero, List.set_cons_succ]
          refine wpAnyH_take (i := 13) (oi := ⟨some 43, .extract (.tmp 30) 1, _, _, _, none⟩) (v := ?_) rfl (by kernel_rfl) (by kernel_rfl) (by kernel_rfl) (fun _ _ _ h => h) (Or.inl ⟨by kernel_rfl, ?_⟩) (by assumption) ?_
          rotate_left
          · (intro w hSw; (try dsimp only at hSw); go_simp; try with_reducible rfl)
          try simp only [Act.put, List.setIfInBounds_toArray, List.set_cons_zero, List.set_cons_succ]
          refine wpAnyH_ready (rs := [14]) (by kernel_rfl) (by simp) ?_
          refine AllReadyH.cons rfl (fun K hK => ?_) ?_
          · go_simp
            clear hHeld
            refine hK.out _ _ ?_ (fun hHeld => ?_)
            · (refine hS.out _ ?_; (repeat (first | exact Ext.refl _ | with_reducible assumption | refine Ext.drew ?_ | refine Ext.alloc ?_ _ | refine Ext.trans ?_ (by assumption))))
            clear hK K
            try simp only [Act.put, List.setIfInBounds_toArray, List.set_cons_zero, List.set_cons_succ]
            refine wpAnyH_ready (rs := [15]) (by kernel_rfl) (by simp) ?_
            refine AllReadyH.cons rfl (fun K hK => ?_) ?_
            · refine step_store_row rfl 36 _ _ rfl _ (rcells (pR x)) rfl rfl 36 zcells (heap_alloc_new W3 _) (rc_sz _) (zc_size _) (rc_one _) ?_
              clear hHeld
              refine hK.out _ _ ?_ (fun hHeld => ?_)
              · (refine hS.out _ (Ext.setRow ?_ ?_ _); ((repeat (first | exact Ext.refl _ | with_reducible assumption | refine Ext.drew ?_ | refine Ext.alloc ?_ _ | refine Ext.trans ?_ (by assumption)))); (first | exact Nat.le_refl _ | exact Below.size (by (repeat (first | exact Ext.refl _ | with_reducible assumption | refine Ext.drew ?_ | refine Ext.alloc ?_ _ | refine Ext.trans ?_ (by assumption))) : Ext wr W3)))
              clear hK K
              try simp only [Act.put, List.setIfInBounds_toArray, List.set_cons_zero, List.set_cons_succ]
              refine wpAnyH_take (i := 16) (oi := ⟨some 9, .assign (.tmp 43), _, _, _, none⟩) (v := ?_) rfl (by kernel_rfl) (by kernel_rfl) (by kernel_rfl) (fun _ _ _ h => h) (Or.inl ⟨by kernel_rfl, ?_⟩) (by assumption) ?_
              rotate_left
              · (intro w hSw; (try dsimp only at hSw); go_simp; try with_reducible rfl)
              try simp only [Act.put, List.setIfInBounds_toArray, List.set_cons_zero, List.set_cons_succ]
              refine wpAnyH_done (by kernel_rfl) ?_ _
              go_wp2
              go_meet
              exact ⟨_, rfl, rfl, setRow_heap _ _ zcells _ _ _ (heap_alloc_new W3 _), Ext.setRow (by (repeat (first | exact Ext.refl _ | with_reducible assumption | refine Ext.drew ?_ | refine Ext.alloc ?_ _ | refine Ext.trans ?_ (by assumption)))) (by first | exact Nat.le_refl _ | exact Below.size (by (repeat (first | exact Ext.refl _ | with_reducible assumption | refine Ext.drew ?_ | refine Ext.alloc ?_ _ | refine Ext.trans ?_ (by assumption))) : Ext wr W3)) _⟩
            exact AllReadyH.nil
          exact AllReadyH.nil
        refine AllReadyH.cons rfl (fun K hK => ?_) ?_
        · go_simp
          clear hHeld
          refine hK.out _ _ ?_ (fun hHeld => ?_)
          · (refine hS.out _ ?_; (repeat (first | exact Ext.refl _ | with_reducible assumption | refine Ext.drew ?_ | refine Ext.alloc ?_ _ | refine Ext.trans ?_ (by assumption))))
          clear hK K
          try simp only [Act.put, List.setIfInBounds_toArray, List.set_cons_zero, List.set_cons_succ]
          refine wpAnyH_ready (rs := [10]) (by kernel_rfl) (by simp) ?_
          refine AllReadyH.cons rfl (fun K hK => ?_) ?_
          · go_simp
            (go_at_call 74; refine (hD.out _).mono ?_; rintro e W3 ⟨rfl, e3⟩)
            go_wp2_with fail
            clear hHeld
            refine hK.out _ _ ?_ (fun hHeld => ?_)
            · (refine hS.out _ ?_; (repeat (first | exact Ext.refl _ | with_reducible assumption | refine Ext.drew ?_ | refine Ext.alloc ?_ _ | refine Ext.trans ?_ (by assumption))))
            clear hK K
            try simp only [Act.put, List.setIfInBounds_toArray, List.set_cons_zero, List.set_cons_succ]
            refine wpAnyH_take (i := 11) (v := ?_) rfl (by kernel_rfl) (by kernel_rfl) (by kernel_rfl) (fun _ _ _ h => h) (Or.inl ⟨by kernel_rfl, ?_⟩) (by assumption) ?_
            rotate_left
            · (intro w hSw; (try dsimp only at hSw); go_simp; try with_reducible rfl)
            try simp only [Act.put, List.setIfInBounds_toArray, List.set_cons_zero, List.set_cons_succ]
            refine wpAnyH_take (i := 12) (v := ?_) rfl (by kernel_rfl) (by kernel_rfl) (by kernel_rfl) (fun _ _ _ h => h) (Or.inl ⟨by kernel_rfl, ?_⟩) (by assumption) ?_
            rotate_left
            · (intro w hSw; (try dsimp only at hSw); go_simp; try with_reducible rfl)
            try simp only [Act.put, List.setIfInBounds_toArray, List.set_cons_zero, List.set_cons_succ]
            refine wpAnyH_take (i := 13) (oi := ⟨some 43, .extract (.tmp 30) 1, _, _, _, none⟩) (v := ?_) rfl (by kernel_rfl) (by kernel_rfl) (by kernel_rfl) (fun _ _ _ h => h) (Or.inl ⟨by kernel_rfl, ?_⟩) (by assumption) ?_
            rotate_left
            · (intro w hSw; (try dsimp only at hSw); go_simp; try with_reducible rfl)
            try simp only [Act.put, List.setIfInBounds_toArray, List.set_cons_zero, List.set_cons_succ]
            refine wpAnyH_ready (rs := [15]) (by kernel_rfl) (by simp) ?_
            refine AllReadyH.cons rfl (fun K hK => ?_) ?_
            · refine step_store_row rfl 36 _ _ rfl _ (rcells (pR x)) rfl rfl 36 zcells (e3.heap (heap_alloc_new _ _)) (rc_sz _) (zc_size _) (rc_one _) ?_
              clear hHeld
              refine hK.out _ _ ?_ (fun hHeld => ?_)
              · (refine hS.out _ (Ext.setRow ?_ ?_ _); ((repeat (first | exact Ext.refl _ | with_reducible assumption | refine Ext.drew ?_ | refine Ext.alloc ?_ _ | refine Ext.trans ?_ (by assumption)))); (first | exact Nat.le_refl _ | exact Below.size (by (repeat (first | exact Ext.refl _ | with_reducible assumption | refine Ext.drew ?_ | refine Ext.alloc ?_ _ | refine Ext.trans ?_ (by assumption))) : Ext wr W3)))
              clear hK K
              try simp only [Act.put, List.setIfInBounds_toArray, List.set_cons_zero, List.set_cons_succ]
              refine wpAnyH_take (i := 16) (oi := ⟨some 9, .assign (.tmp 43), _, _, _, none⟩) (v := ?_) rfl (by kernel_rfl) (by kernel_rfl) (by kernel_rfl) (fun _ _ _ h => h) (Or.inl ⟨by kernel_rfl, ?_⟩) (by assumption) ?_
              rotate_left
              · (intro w hSw; (try dsimp only at hSw); go_simp; try with_reducible rfl)
              try simp only [Act.put, List.setIfInBounds_toArray, List.set_cons_zero, List.set_cons_succ]
              refine wpAnyH_done (by kernel_rfl) ?_ _
              go_wp2
              go_meet
              exact ⟨_, rfl, rfl, setRow_heap _ _ zcells _ _ _ (e3.heap (heap_alloc_new _ _)), Ext.setRow (by (repeat (first | exact Ext.refl _ | with_reducible assumption | refine Ext.drew ?_ | refine Ext.alloc ?_ _ | refine Ext.trans ?_ (by assumption)))) (by first | exact Nat.le_refl _ | exact Below.size (by (repeat (first | exact Ext.refl _ | with_reducible assumption | refine Ext.drew ?_ | refine Ext.alloc ?_ _ | refine Ext.trans ?_ (by assumption))) : Ext wr W3)) _⟩
            exact AllReadyH.nil
          exact AllReadyH.nil
        exact AllReadyH.nil
        -- END DECODE1
      case rest =>
        obtain ⟨B, rfl, rfl, hB, ed⟩ := hcut
        have ht2 := Lib.hid (ht.out.ext ed)
        have hEc := decE_cases x.n x.v
        have hEx : pE x = decE x.n x.v := rfl
        rw [← hEx] at hEc
        clear hEx hS hD k0 k1 hB ht
        rcases hEc with h0 | h8
        rotate_left
        · have hno := Lib.hid (loadL_bad (room := room) (List.mem_of_getElem? hx) (by rw [h8]; decide))
          rw [h8]
          clear hr hx
          go_wp2
          go_ret2
          exact .inr ⟨by rw [← hroh.out]; exact hno.out, rfl, ht2.out.2⟩
        rw [h0]
        have hE2 := Lib.hid (fun q y (hq : q < j + 1) (hy : ps[q]? = some y) => (if e : q = j then by subst e; rw [hx] at hy; cases hy; exact h0 else hE.out q y (by omega) hy : pE y = 0))
        have hxh := Lib.hid hx
        have hrh := Lib.hid hr
        clear hr hx hE h0
        obtain ⟨WD, rfl⟩ : ∃ W, W = wc := ⟨_, rfl⟩
        have ht0 := Lib.hid ht2.out.2
        go_wp2
        go_loopw [10] (fun i wq => ∃ q : Nat, q ≤ j ∧ i = .int .i64 (q : Int) ∧ RowKit.Hid (∀ b y, b < q → ps[b]? = some y → y.n ≠ x.n) ∧ Ext WD wq) (fun i _ => j - (intOf i).toNat)
        case atStart => exact ⟨0, Nat.zero_le _, rfl, Lib.hid fun b y h => by omega, Ext.refl _⟩
        case round =>
          obtain ⟨q, hq, rfl, hne, eq⟩ := hrel
          by_cases hqj : q < j
          · obtain ⟨y, hy⟩ := some_at (l := ps) (by omega : q < ps.length)
            obtain ⟨_, _, _, hq2, hry, rfl, -⟩ := hgh.out q y hy
            cases hq2
            have hqi : (q : Int) < (j : Int) := by omega
            have hql : (q : Int) < (ps.length : Int) := by omega
            have hw3 : IntKind.i64.wrap ((q : Int) + 1) = (q : Int) + 1 := by rw [IntKind.wrap_i64]; omega
            have e0q := ht0.out.trans eq
            have m1 := e0q.cell (hry 0 (.string (str y.n)) rfl)
            have m2 := e0q.cell (hrh.out 0 (.string (str x.n)) rfl)
            rw [Nat.add_zero] at m1 m2
            have htw := Lib.hid (fun e : y.n = x.n => (loadL_twice (room := room) (by omega) hy hxh.out e : loadL room ps = none))
            have hnx := Lib.hid (fun h : y.n ≠ x.n => (fun b z hb hz => if e : b = q then by subst e; rw [hy] at hz; cases hz; exact h else hne.out b z (by omega) hz : ∀ b z, b < q + 1 → ps[b]? = some z → z.n ≠ x.n))
            clear hry hy hne
            go_upto_region 13 with fail
            go_quiet (fail)
            have e9 := eq.trans (Ext.drewM _ nq)
            generalize World.drewN _ nq = WC at *
            clear m1 m2 e0q eq
            cases hs : seq y.n x.n
            · have hnx2 := Lib.hid (hnx.out (seq_false.1 hs))
              clear hnx htw
              go_wp2
              go_roundw
              case rel => exact ⟨q + 1, by omega, by go_num, hnx2, e9⟩
              case measure => simp [intOf]; omega
            · have hno := Lib.hid (htw.out (seq_true.1 hs))
              clear hnx htw
              go_wp2
              go_ret2
              exact .inr ⟨by rw [← hroh.out]; exact hno.out, rfl, ht0.out.trans e9⟩
          · obtain rfl : q = j := by omega
            have hA2 := Lib.hid (fun a b (u v : Pr) (hab : a < b) (hb : b < q + 1) (hu : ps[a]? = some u) (hv : ps[b]? = some v) => (if e : b = q then by subst e; rw [hxh.out] at hv; cases hv; exact hne.out a u hab hu else hAp.out a b u v hab (by omega) hu hv : u.n ≠ v.n))
            have ht3 := Lib.hid (ht2.out.ext eq)
            clear hne hAp eq
            go_wp2
            go_roundw
            case rel => exact ⟨q + 1, by omega, by go_num, hE2, hA2, ht3⟩
            case measure => simp [intOf]; omega
    · obtain rfl : j = ps.length := by omega
      have hend := Lib.hid (loadL_end (room := room) hlong hE.out hAp.out)
      have hit0 : RowKit.Hid (TrD w wr P room (itL room ps 0 [])) := Lib.hid (by rw [show itL room ps 0 [] = [] by unfold itL; rfl]; exact ht.out)
      clear hAp ht
      go_wp2
      go_loopw [11] (fun i wq => ∃ k : Nat, k ≤ ps.length ∧ i = .int .i64 (k : Int) ∧ RowKit.Hid (TrD w wq P room (itL room ps k []))) (fun i _ => ps.length - (intOf i).toNat)
      case atStart => exact ⟨0, Nat.zero_le _, rfl, hit0⟩
      case round =>
        obtain ⟨k, hk, rfl, hit⟩ := hrel
        clear hit0
        by_cases hkl : k < ps.length
        · have hki : (k : Int) < (ps.length : Int) := by omega
          have hwk : IntKind.i64.wrap ((k : Int) + 1) = (k : Int) + 1 := by rw [IntKind.wrap_i64]; omega
          have hsn := Lib.hid (itL_snoc room ps k [])
          have hSt := Lib.hid (St.it ps k (St.nil hroom.out))
          obtain ⟨T, hT⟩ : ∃ T, T = itL room ps k [] := ⟨_, rfl⟩
          rw [← hT] at hit hsn hSt
          have hr0 : RowKit.Hid (TrD w wr P room (rndL room (ps.take 0) T)) := Lib.hid (by rw [show rndL room (ps.take 0) T = T by unfold rndL; rfl]; exact hit.out)
          clear hit hT
          go_wp2
          go_loopw [12] (fun i wq => ∃ j : Nat, j ≤ ps.length ∧ i = .int .i64 (j : Int) ∧ RowKit.Hid (TrD w wq P room (rndL room (ps.take j) T))) (fun i _ => ps.length - (intOf i).toNat)
          case atStart => exact ⟨0, Nat.zero_le _, rfl, hr0⟩
          case round =>
            obtain ⟨j, hj, rfl, ht⟩ := hrel
            clear hr0
            by_cases hjl : j < ps.length
            · obtain ⟨x, hx⟩ := some_at hjl
              obtain ⟨g, o, cs, rfl, hr, rfl, hfx⟩ := hgh.out j x hx
              have hji : (j : Int) < (ps.length : Int) := by omega
              have hwj : IntKind.i64.wrap ((j : Int) + 1) = (j : Int) + 1 := by rw [IntKind.wrap_i64]; omega
              have k0 := ht.out.2.cell (hr 0 (.string (str x.n)) rfl)
              have k1 := ht.out.2.cell (hr 1 (.string (str x.v)) rfl)
              rw [Nat.add_zero] at k0
              have hxl := hszh.out x (List.mem_of_getElem? hx)
              have hD := Lib.hid (fun W => refDecode_r x.n x.v hxl.1 hxl.2 W)
              have hEx : pE x = decE x.n x.v := rfl
              have hRx : pR x = decR x.n x.v := rfl
              rw [← hEx, ← hRx] at hD
              have hE0 : pE x = 0 := hE.out j x hjl hx
              have hfit : Fits (pR x) := dec_fits hE0
              have hnm : (pR x).name.length ≤ 1000 := by rw [pR_name hE0]; exact hxl.1
              have hpl : (pR x).par.length ≤ 1000 := by have := ((right_iff _).1 (pR_right hE0)).parl; omega
              have hst := Lib.hid (rndL_step room hx T)
              have hStj := Lib.hid (St.rnd (ps.take j) hSt.out)
              generalize rndL room (ps.take j) T = U at *
              clear hEx hRx hE0
              have hS := Lib.hid (fun W (e : Ext wr W) => (⟨e.cell k0, e.cell k1⟩ : W.cell? ⟨g, o + j * 2, none⟩ = some (.string (str x.n)) ∧ W.cell? ⟨g, o + j * 2 + 1, none⟩ = some (.string (str x.v))))
              go_upto_region 21 with fail
              go_cut [13, 14] (fun b e wd => ∃ B, b = .pointer (some ⟨B, 0, none⟩) ∧ e = .int .i64 (pE x) ∧ wd.heap[B]? = some (.cells (rcells (pR x)) 36 (0, 0)) ∧ Ext wr wd)
              case first =>
                -- BEGIN DECODE2
                refine wp_region_held_drew (S := (fun W => W.cell? ⟨g, o + j * 2, none⟩ = some (.string (str x.n)) ∧ W.cell? ⟨g, o + j * 2 + 1, none⟩ = some (.string (str x.v)))) (by kernel_rfl) ?_ (fun hHeld => ?_)
                · (refine hS.out _ ?_; (repeat (first | exact Ext.refl _ | with_reducible assumption | refine Ext.drew ?_ | refine Ext.alloc ?_ _ | refine Ext.trans ?_ (by assumption))))
                refine wpAnyH_take (i := 0) (v := ?_) rfl (by kernel_rfl) (by kernel_rfl) (by kernel_rfl) (fun _ _ _ h => h) (Or.inl ⟨by kernel_rfl, ?_⟩) (by assumption) ?_
                rotate_left
                · (intro w hSw; (try dsimp only at hSw); go_simp; try with_reducible rfl)
                try simp only [Act.put, List.setIfInBounds_toArray, List.set_cons_zero, List.set_cons_succ]
                refine wpAnyH_take (i := 1) (v := ?_) rfl (by kernel_rfl) (by kernel_rfl) (by kernel_rfl) (fun _ _ _ h => h) (Or.inl ⟨by kernel_rfl, ?_⟩) (by assumption) ?_
                rotate_left
                · (intro w hSw; (try dsimp only at hSw); go_simp; try with_reducible rfl)
                try simp only [Act.put, List.setIfInBounds_toArray, List.set_cons_zero, List.set_cons_succ]
                refine wpAnyH_take (i := 2) (v := ?_) rfl (by kernel_rfl) (by kernel_rfl) (by kernel_rfl) (fun _ _ _ h => h) (Or.inl ⟨by kernel_rfl, ?_⟩) (by assumption) ?_
                rotate_left
                · (intro w hSw; (try dsimp only at hSw); go_simp; try with_reducible rfl)
                try simp only [Act.put, List.setIfInBounds_toArray, List.set_cons_zero, List.set_cons_succ]
                refine wpAnyH_take (i := 3) (v := ?_) rfl (by kernel_rfl) (by kernel_rfl) (by kernel_rfl) (fun _ _ _ h => h) (Or.inl ⟨by kernel_rfl, ?_⟩) (by assumption) ?_
                rotate_left
                · (intro w hSw; (try dsimp only at hSw); go_simp; try with_reducible rfl)
                try simp only [Act.put, List.setIfInBounds_toArray, List.set_cons_zero, List.set_cons_succ]
                refine wpAnyH_take (i := 4) (v := ?_) rfl (by kernel_rfl) (by kernel_rfl) (by kernel_rfl) (fun _ _ _ h => h) (Or.inl ⟨by kernel_rfl, ?_⟩) (by assumption) ?_
                rotate_left
                · (intro w hSw; (try dsimp only at hSw); go_simp; try with_reducible rfl)
                try simp only [Act.put, List.setIfInBounds_toArray, List.set_cons_zero, List.set_cons_succ]
                refine wpAnyH_take (i := 5) (v := ?_) rfl (by kernel_rfl) (by kernel_rfl) (by kernel_rfl) (fun _ _ _ h => h) (Or.inl ⟨by kernel_rfl, ?_⟩) (by assumption) ?_
                rotate_left
                · (intro w hSw; (try dsimp only at hSw); go_simp; try with_reducible rfl)
                try simp only [Act.put, List.setIfInBounds_toArray, List.set_cons_zero, List.set_cons_succ]
                refine wpAnyH_take (i := 6) (v := ?_) rfl (by kernel_rfl) (by kernel_rfl) (by kernel_rfl) (fun _ _ _ h => h) (Or.inl ⟨by kernel_rfl, ?_⟩) (by assumption) ?_
                rotate_left
                · (intro w hSw; (try dsimp only at hSw); go_simp; try with_reducible rfl)
                try simp only [Act.put, List.setIfInBounds_toArray, List.set_cons_zero, List.set_cons_succ]
                refine wpAnyH_take (i := 7) (v := ?_) rfl (by kernel_rfl) (by kernel_rfl) (by kernel_rfl) (fun _ _ _ h => h) (Or.inl ⟨by kernel_rfl, ?_⟩) (by assumption) ?_
                rotate_left
                · (intro w hSw; (try dsimp only at hSw); go_simp; try with_reducible rfl)
                try simp only [Act.put, List.setIfInBounds_toArray, List.set_cons_zero, List.set_cons_succ]
                refine wpAnyH_take (i := 8) (v := ?_) rfl (by kernel_rfl) (by kernel_rfl) (by kernel_rfl) (fun _ _ _ h => h) (Or.inl ⟨by kernel_rfl, ?_⟩) (by assumption) ?_
                rotate_left
                · (intro w hSw; (try dsimp only at hSw); go_simp; try with_reducible rfl)
                try simp only [Act.put, List.setIfInBounds_toArray, List.set_cons_zero, List.set_cons_succ]
                refine wpAnyH_take (i := 9) (v := ?_) rfl (by kernel_rfl) (by kernel_rfl) (by kernel_rfl) (fun _ _ _ h => h) (Or.inl ⟨by kernel_rfl, ?_⟩) (by assumption) ?_
                rotate_left
                · (intro w hSw; (try dsimp only at hSw); go_simp; try with_reducible rfl)
                try simp only [Act.put, List.setIfInBounds_toArray, List.set_cons_zero, List.set_cons_succ]
                refine wpAnyH_ready (rs := [10, 14]) (by kernel_rfl) (by simp) ?_
                refine AllReadyH.cons rfl (fun K hK => ?_) ?_
                · go_simp
                  (go_at_call 74; refine (hD.out _).mono ?_; rintro e W3 ⟨rfl, e3⟩)
                  go_wp2_with fail
                  clear hHeld
                  refine hK.out _ _ ?_ (fun hHeld => ?_)
                  · (refine hS.out _ ?_; (repeat (first | exact Ext.refl _ | with_reducible assumption | refine Ext.drew ?_ | refine Ext.alloc ?_ _ | refine Ext.trans ?_ (by assumption))))
                  clear hK K
                  try simp only [Act.put, List.setIfInBounds_toArray, List.set_cons_zero, List.set_cons_succ]
                  refine wpAnyH_take (i := 11) (v := ?_) rfl (by kernel_rfl) (by kernel_rfl) (by kernel_rfl) (fun _ _ _ h => h) (Or.inl ⟨by kernel_rfl, ?_⟩) (by assumption) ?_
                  rotate_left
                  · (intro w hSw; (try dsimp only at hSw); go_simp; try with_reducible rfl)
                  try simp only [Act.put, List.setIfInBounds_toArray, List.set_cons_zero, List.set_cons_succ]
                  refine wpAnyH_take (i := 12) (v := ?_) rfl (by kernel_rfl) (by kernel_rfl) (by kernel_rfl) (fun _ _ _ h => h) (Or.inl ⟨by kernel_rfl, ?_⟩) (by assumption) ?_
                  rotate_left
                  · (intro w hSw; (try dsimp only at hSw); go_simp; try with_reducible rfl)
                  try simp only [Act.put, List.setIfInBounds_toArray, List.set_cons_zero, List.set_cons_succ]
                  refine wpAnyH_take (i := 13) (oi := ⟨some 87, .extract (.tmp 74) 1, _, _, _, none⟩) (v := ?_) rfl (by kernel_rfl) (by kernel_rfl) (by kernel_rfl) (fun _ _ _ h => h) (Or.inl ⟨by kernel_rfl, ?_⟩) (by assumption) ?_
                  rotate_left
                  · (intro w hSw; (try dsimp only at hSw); go_simp; try with_reducible rfl)
                  try simp only [Act.put, List.setIfInBounds_toArray, List.set_cons_zero, List.set_cons_succ]
                  refine wpAnyH_ready (rs := [14]) (by kernel_rfl) (by simp) ?_
                  refine AllReadyH.cons rfl (fun K hK => ?_) ?_
                  · go_simp
                    clear hHeld
                    refine hK.out _ _ ?_ (fun hHeld => ?_)
                    · (refine hS.out _ ?_; (repeat (first | exact Ext.refl _ | with_reducible assumption | refine Ext.drew ?_ | refine Ext.alloc ?_ _ | refine Ext.trans ?_ (by assumption))))
                    clear hK K
                    try simp only [Act.put, List.setIfInBounds_toArray, List.set_cons_zero, List.set_cons_succ]
                    refine wpAnyH_ready (rs := [15]) (by kernel_rfl) (by simp) ?_
                    refine AllReadyH.cons rfl (fun K hK => ?_) ?_
                    · refine step_store_row rfl 36 _ _ rfl _ (rcells (pR x)) rfl rfl 36 zcells (heap_alloc_new W3 _) (rc_sz _) (zc_size _) (rc_one _) ?_
                      clear hHeld
                      refine hK.out _ _ ?_ (fun hHeld => ?_)
                      · (refine hS.out _ (Ext.setRow ?_ ?_ _); ((repeat (first | exact Ext.refl _ | with_reducible assumption | refine Ext.drew ?_ | refine Ext.alloc ?_ _ | refine Ext.trans ?_ (by assumption)))); (first | exact Nat.le_refl _ | exact Below.size (by (repeat (first | exact Ext.refl _ | with_reducible assumption | refine Ext.drew ?_ | refine Ext.alloc ?_ _ | refine Ext.trans ?_ (by assumption))) : Ext wr W3)))
                      clear hK K
                      try simp only [Act.put, List.setIfInBounds_toArray, List.set_cons_zero, List.set_cons_succ]
                      refine wpAnyH_take (i := 16) (oi := ⟨some 14, .assign (.tmp 87), _, _, _, none⟩) (v := ?_) rfl (by kernel_rfl) (by kernel_rfl) (by kernel_rfl) (fun _ _ _ h => h) (Or.inl ⟨by kernel_rfl, ?_⟩) (by assumption) ?_
                      rotate_left
                      · (intro w hSw; (try dsimp only at hSw); go_simp; try with_reducible rfl)
                      try simp only [Act.put, List.setIfInBounds_toArray, List.set_cons_zero, List.set_cons_succ]
                      refine wpAnyH_done (by kernel_rfl) ?_ _
                      go_wp2
                      go_meet
                      exact ⟨_, rfl, rfl, setRow_heap _ _ zcells _ _ _ (heap_alloc_new W3 _), Ext.setRow (by (repeat (first | exact Ext.refl _ | with_reducible assumption | refine Ext.drew ?_ | refine Ext.alloc ?_ _ | refine Ext.trans ?_ (by assumption)))) (by first | exact Nat.le_refl _ | exact Below.size (by (repeat (first | exact Ext.refl _ | with_reducible assumption | refine Ext.drew ?_ | refine Ext.alloc ?_ _ | refine Ext.trans ?_ (by assumption))) : Ext wr W3)) _⟩
                    exact AllReadyH.nil
                  exact AllReadyH.nil
                refine AllReadyH.cons rfl (fun K hK => ?_) ?_
                · go_simp
                  clear hHeld
                  refine hK.out _ _ ?_ (fun hHeld => ?_)
                  · (refine hS.out _ ?_; (repeat (first | exact Ext.refl _ | with_reducible assumption | refine Ext.drew ?_ | refine Ext.alloc ?_ _ | refine Ext.trans ?_ (by assumption))))
                  clear hK K
                  try simp only [Act.put, List.setIfInBounds_toArray, List.set_cons_zero, List.set_cons_succ]
                  refine wpAnyH_ready (rs := [10]) (by kernel_rfl) (by simp) ?_
                  refine AllReadyH.cons rfl (fun K hK => ?_) ?_
                  · go_simp
                    (go_at_call 74; refine (hD.out _).mono ?_; rintro e W3 ⟨rfl, e3⟩)
                    go_wp2_with fail
                    clear hHeld
                    refine hK.out _ _ ?_ (fun hHeld => ?_)
                    · (refine hS.out _ ?_; (repeat (first | exact Ext.refl _ | with_reducible assumption | refine Ext.drew ?_ | refine Ext.alloc ?_ _ | refine Ext.trans ?_ (by assumption))))
                    clear hK K
                    try simp only [Act.put, List.setIfInBounds_toArray, List.set_cons_zero, List.set_cons_succ]
                    refine wpAnyH_take (i := 11) (v := ?_) rfl (by kernel_rfl) (by kernel_rfl) (by kernel_rfl) (fun _ _ _ h => h) (Or.inl ⟨by kernel_rfl, ?_⟩) (by assumption) ?_
                    rotate_left
                    · (intro w hSw; (try dsimp only at hSw); go_simp; try with_reducible rfl)
                    try simp only [Act.put, List.setIfInBounds_toArray, List.set_cons_zero, List.set_cons_succ]
                    refine wpAnyH_take (i := 12) (v := ?_) rfl (by kernel_rfl) (by kernel_rfl) (by kernel_rfl) (fun _ _ _ h => h) (Or.inl ⟨by kernel_rfl, ?_⟩) (by assumption) ?_
                    rotate_left
                    · (intro w hSw; (try dsimp only at hSw); go_simp; try with_reducible rfl)
                    try simp only [Act.put, List.setIfInBounds_toArray, List.set_cons_zero, List.set_cons_succ]
                    refine wpAnyH_take (i := 13) (oi := ⟨some 87, .extract (.tmp 74) 1, _, _, _, none⟩) (v := ?_) rfl (by kernel_rfl) (by kernel_rfl) (by kernel_rfl) (fun _ _ _ h => h) (Or.inl ⟨by kernel_rfl, ?_⟩) (by assumption) ?_
                    rotate_left
                    · (intro w hSw; (try dsimp only at hSw); go_simp; try with_reducible rfl)
                    try simp only [Act.put, List.setIfInBounds_toArray, List.set_cons_zero, List.set_cons_succ]
                    refine wpAnyH_ready (rs := [15]) (by kernel_rfl) (by simp) ?_
                    refine AllReadyH.cons rfl (fun K hK => ?_) ?_
                    · refine step_store_row rfl 36 _ _ rfl _ (rcells (pR x)) rfl rfl 36 zcells (e3.heap (heap_alloc_new _ _)) (rc_sz _) (zc_size _) (rc_one _) ?_
                      clear hHeld
                      refine hK.out _ _ ?_ (fun hHeld => ?_)
                      · (refine hS.out _ (Ext.setRow ?_ ?_ _); ((repeat (first | exact Ext.refl _ | with_reducible assumption | refine Ext.drew ?_ | refine Ext.alloc ?_ _ | refine Ext.trans ?_ (by assumption)))); (first | exact Nat.le_refl _ | exact Below.size (by (repeat (first | exact Ext.refl _ | with_reducible assumption | refine Ext.drew ?_ | refine Ext.alloc ?_ _ | refine Ext.trans ?_ (by assumption))) : Ext wr W3)))
                      clear hK K
                      try simp only [Act.put, List.setIfInBounds_toArray, List.set_cons_zero, List.set_cons_succ]
                      refine wpAnyH_take (i := 16) (oi := ⟨some 14, .assign (.tmp 87), _, _, _, none⟩) (v := ?_) rfl (by kernel_rfl) (by kernel_rfl) (by kernel_rfl) (fun _ _ _ h => h) (Or.inl ⟨by kernel_rfl, ?_⟩) (by assumption) ?_
                      rotate_left
                      · (intro w hSw; (try dsimp only at hSw); go_simp; try with_reducible rfl)
                      try simp only [Act.put, List.setIfInBounds_toArray, List.set_cons_zero, List.set_cons_succ]
                      refine wpAnyH_done (by kernel_rfl) ?_ _
                      go_wp2
                      go_meet
                      exact ⟨_, rfl, rfl, setRow_heap _ _ zcells _ _ _ (e3.heap (heap_alloc_new _ _)), Ext.setRow (by (repeat (first | exact Ext.refl _ | with_reducible assumption | refine Ext.drew ?_ | refine Ext.alloc ?_ _ | refine Ext.trans ?_ (by assumption)))) (by first | exact Nat.le_refl _ | exact Below.size (by (repeat (first | exact Ext.refl _ | with_reducible assumption | refine Ext.drew ?_ | refine Ext.alloc ?_ _ | refine Ext.trans ?_ (by assumption))) : Ext wr W3)) _⟩
                    exact AllReadyH.nil
                  exact AllReadyH.nil
                exact AllReadyH.nil
                -- END DECODE2
              case rest =>
                obtain ⟨B, rfl, rfl, hB, ed⟩ := hcut
                have ht2 := Lib.hid (ht.out.ext ed)
                have hA := refAdd_any (pR x) ht2.out.1 hfit (by omega) (by omega) hStj.out.small
                clear hS hD k0 k1 ht hr hx
                go_wp2_with (first
                  | (refine wpList_load_row rfl 36 _ rfl B rfl 36 (rcells (pR x)) (0, 0) _ hB Tryd.underlying36 rfl (rc_sz _) ?_)
                  | (go_at_call 38; refine hA.mono ?_; rintro e W5 ⟨rfl, t5, g5⟩))
                go_roundw
                case rel => exact ⟨j + 1, by omega, by go_num, Lib.hid (by rw [hst.out]; exact ht2.out.chg t5 g5)⟩
                case measure => simp [intOf]; omega
            · obtain rfl : j = ps.length := by omega
              have ht2 := Lib.hid (show TrD w wr P room (itL room ps (k + 1) []) from by rw [hsn.out]; have h := ht.out; rw [List.take_length] at h; exact h)
              clear ht
              go_wp2
              go_roundw
              case rel => exact ⟨k + 1, by omega, by go_num, ht2⟩
              case measure => simp [intOf]; omega
        · obtain rfl : k = ps.length := by omega
          obtain ⟨_, _, -, cU, -⟩ := hit.out.1.parts
          obtain ⟨T, hT⟩ : ∃ T, T = itL room ps ps.length [] := ⟨_, rfl⟩
          rw [← hT] at hit hend cU
          clear hT
          by_cases hfew : T.length < ps.length
          · have hfi : (T.length : Int) < (ps.length : Int) := by omega
            have hno := Lib.hid (hend.out.trans (if_pos hfew))
            go_wp2
            go_ret2
            exact .inr ⟨by rw [← hroh.out]; exact hno.out, rfl, hit.out.2⟩
          · have hfi : ¬ (T.length : Int) < (ps.length : Int) := by omega
            have hyes := Lib.hid (hend.out.trans (if_neg hfew))
            go_wp2
            go_ret2
            exact .inl ⟨T, by rw [← hroh.out]; exact hyes.out, P, rfl, by rw [← hroh.out]; exact hit.out⟩
end Go.Proofs.YtmdepmohfnficaaDoor
