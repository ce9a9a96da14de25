/- Package tree: where a name lies. -/
import Derived.Test.YtmdepmohfnficaaDoorTrW
import Derived.Deep.DeepCutAuto
import Derived.Deep.CutBlock
import Derived.Laws.EntriesVeiled
import Derived.Lib.SliceRun
namespace Go.Proofs.YtmdepmohfnficaaDoor
set_option linter.unusedVariables false
set_option linter.unusedSimpArgs false
open Go.RowKit Rk Tr

namespace Tr
def idx (p : Rec → Bool) (l : List Rec) : Int := match l.findIdx? p with
  | some i => (i : Int)
  | none => -1
def atI (l : List Rec) (n : List UInt8) : Int := idx (fun r => seq r.name n) l
theorem idx_hit {p : Rec → Bool} {l : List Rec} {k : Nat} {x : Rec} (h : ∀ j x, j < k → l[j]? = some x → p x = false) (hx : l[k]? = some x) (hp : p x = true) : idx p l = (k : Int) := by
  obtain ⟨hk, rfl⟩ := List.getElem?_eq_some_iff.1 hx
  unfold idx
  rw [List.findIdx?_eq_some_iff_getElem.2 ⟨hk, hp, fun j hj => by
    have := h j l[j] hj (List.getElem?_eq_getElem (by omega))
    simp [this]⟩]
theorem idx_miss {p : Rec → Bool} {l : List Rec} (h : ∀ j x, j < l.length → l[j]? = some x → p x = false) : idx p l = -1 := by
  unfold idx
  rw [List.findIdx?_eq_none_iff.2 fun x hx => by
    obtain ⟨j, hj⟩ := List.getElem?_of_mem hx
    exact h j x (List.getElem?_eq_some_iff.1 hj).1 hj]
theorem atI_some {l : List Rec} {n : List UInt8} {i : Nat} (h : ix l n = some i) : atI l n = (i : Int) := by
  have h : l.findIdx? (fun r => seq r.name n) = some i := h
  unfold atI idx; rw [h]
theorem atI_none {l : List Rec} {n : List UInt8} (h : ix l n = none) : atI l n = -1 := by
  have h : l.findIdx? (fun r => seq r.name n) = none := h
  unfold atI idx; rw [h]
theorem atI_cases (l : List Rec) (n : List UInt8) : (ix l n = none ∧ atI l n = -1) ∨ ∃ (i : Nat) (r : Rec), ix l n = some i ∧ atI l n = (i : Int) ∧ l[i]? = some r ∧ r.name = n := by
  cases h : ix l n with
  | none => exact .inl ⟨rfl, atI_none h⟩
  | some i =>
    obtain ⟨r, h1, h2⟩ := ix_some h
    exact .inr ⟨i, r, rfl, atI_some h, h1, h2⟩
end Tr
theorem rc_cells (r : Rec) : (rcells r)[0]? = some (.int .i64 r.kind) ∧ (rcells r)[1]? = some (.string (str r.name)) ∧ (rcells r)[2]? = some (.string (str r.par)) := ⟨rfl, rfl, rfl⟩
theorem rc_sz (r : Rec) : (Tryd.prog.info? 36).map (·.size) = some (rcells r).size := info_rec
/-- a record out of the middle of a row -/
theorem wpList_load_rec {ops : Array Oper} {rest : List Oper} {o : Oper} {a : Act} {w : World} {Q : Exit → Act → World → Prop} (hw : Region.wanted o (yielded ops a.tmps) = true) (x : Operand) (ho : o.op = .load 36 x)
    (b i : Nat) (hx : a.eval x = .pointer (some ⟨b, i, none⟩)) (r : Rec) (hc : w.rangeAt b i (prow r)) (h : wpList Tryd.prog ops Q rest (a.put o.dst (.agg (rcells r))) w) : wpList Tryd.prog ops Q (o :: rest) a w :=
  wpList_step fun _ hK => by
    rw [if_pos hw]
    exact wp_load_mid 36 x ho b i hx (prow r) _ hc Tryd.underlying36 rfl info_rec (hK _ _ (by
      have : (prow r).toArray = rcells r := by simp [prow]
      rw [this]; exact h))
attribute [local irreducible] rcells
theorem at1_any (r : Rec) (n : List UInt8) (B : Nat) (w : World) (hB : w.cell? ⟨B, 0, none⟩ = some (.string (str n))) :
    Calls Tryd.prog 86 #[.agg (rcells r), .pointer (some ⟨B, 0, none⟩)] w fun e w' => e = .returned (.bool (seq r.name n)) ∧ Ext w w' := by
  have e1 := (Ext.refl w).alloc (.cells (rcells r) 36)
  have c1 := (cell_of_row (w.alloc (.cells (rcells r) 36)) w.heap.size 1 _ _ _ (heap_alloc_new w _)).trans (rc_cells r).2.1
  have cB := e1.cell hB
  go_enter Tryd.func86, Tryd.ntmps86
  go_wp2
  go_ret
  exact ⟨rfl, e1⟩
end Go.Proofs.YtmdepmohfnficaaDoor


namespace Go.Proofs.YtmdepmohfnficaaDoor
set_option linter.unusedVariables false
set_option linter.unusedSimpArgs false
open Go.RowKit Rk Tr

attribute [local irreducible] rcells
set_option maxHeartbeats 1000000 in
theorem indexAt_any (v : Value) (l : List Rec) (n : List UInt8) (B : Nat) (w : World) (h : Recs w v l) (hB : w.cell? ⟨B, 0, none⟩ = some (.string (str n))) :
    Calls Tryd.prog 85 #[v, .func (.func 86) #[] #[.pointer (some ⟨B, 0, none⟩)]] w fun e w' => e = .returned (.int .i64 (atI l n)) ∧ Ext w w' := by
  obtain ⟨a, cap, rfl, hlen, hget⟩ := Rw.shape h
  have hgh := Lib.hid hget
  clear hget h
  have e0 := Ext.refl w
  go_enter Tryd.func85, Tryd.ntmps85
  go_wp2
  go_loopw [8] (fun i wr => ∃ k : Nat, k ≤ l.length ∧ i = .int .i64 (k : Int) ∧ RowKit.Hid (∀ j x, j < k → l[j]? = some x → seq x.name n = false) ∧ Ext w wr) (fun i _ => l.length - (intOf i).toNat)
  case atStart => exact ⟨0, Nat.zero_le _, rfl, Lib.hid fun j x hj => by omega, e0⟩
  case round =>
    obtain ⟨k, hk, rfl, hno, ek⟩ := hrel
    clear e0
    by_cases hlt : k < l.length
    · obtain ⟨x, hx⟩ := some_at hlt
      obtain ⟨g, o, cs, rfl, hr, rfl, hf⟩ := hgh.out k x hx
      have hki : (k : Int) < (l.length : Int) := by omega
      have hw : IntKind.i64.wrap ((k : Int) + 1) = (k : Int) + 1 := by rw [IntKind.wrap_i64]; omega
      have hr2 : wr.rangeAt g (o + k * 10) (prow x) := fun i u hu => ek.cell (hr i u hu)
      have hat := at1_any x n B wr (ek.cell hB)
      have hit := Lib.hid (fun h => idx_hit hno.out hx h : seq x.name n = true → idx (fun r => seq r.name n) l = (k : Int))
      have hnx := Lib.hid (fun h => (fun j y hj hy => if e : j = k then by subst e; rw [hx] at hy; cases hy; exact h else hno.out j y (by omega) hy) : seq x.name n = false → ∀ j y, j < k + 1 → l[j]? = some y → seq y.name n = false)
      clear hr hx hf hno
      cases hs : seq x.name n
      · rw [hs] at hat
        have hnx2 := Lib.hid (hnx.out hs)
        clear hnx hit
        go_wp2_with (first
          | (refine wpList_load_rec (by rfl) _ rfl g (o + k * 10) rfl x hr2 ?_)
          | (go_at_call 86; refine hat.mono ?_; rintro e w2 ⟨rfl, e2⟩))
        go_roundw
        case rel => exact ⟨k + 1, by omega, by go_num, Lib.hid hnx2.out, ek.trans e2⟩
        case measure => simp [intOf]; omega
      · rw [hs] at hat
        have hit2 := Lib.hid (hit.out hs)
        clear hnx hit
        go_wp2_with (first
          | (refine wpList_load_rec (by rfl) _ rfl g (o + k * 10) rfl x hr2 ?_)
          | (go_at_call 86; refine hat.mono ?_; rintro e w2 ⟨rfl, e2⟩))
        go_ret
        exact ⟨by unfold atI; rw [hit2.out]; rfl, ek.trans e2⟩
    · obtain rfl : k = l.length := by omega
      have hm := Lib.hid (idx_miss hno.out)
      go_wp2
      go_ret
      exact ⟨by unfold atI; rw [hm.out]; rfl, ek⟩
theorem cell_at {w : World} {g : Nat} {cs : Array Value} {T : TypeId} {fr : Nat × Nat} (h : w.heap[g]? = some (.cells cs T fr)) (i : Nat) {u : Value} (hu : cs[i]? = some u) : w.cell? ⟨g, i, none⟩ = some u := by rw [cell_of_row w g i _ _ _ h, hu]
theorem TrM.parts {T : TypeId} {w : World} {F : Nat → Prop} {p room : Nat} {l : List Rec} (h : TrM T w F p room l) : ∃ a cap, w.cell? ⟨p, 0, none⟩ = some (.int .i64 (room : Int)) ∧ w.cell? ⟨p, 1, none⟩ = some (.slice a l.length cap) ∧ Recs w (.slice a l.length cap) l := by
  obtain ⟨v, h1, -, h3⟩ := h
  obtain ⟨a, cap, rfl⟩ := h3.shape
  exact ⟨a, cap, cell_at h1 0 rfl, cell_at h1 1 rfl, h3.recs⟩
theorem at_any {F : Nat → Prop} {p room : Nat} {l : List Rec} (n : List UInt8) {w : World} (h : TrM 96 w F p room l) :
    Calls Tryd.prog 61 #[.pointer (some ⟨p, 0, none⟩), .string (str n)] w fun e w' => e = .returned (.int .i64 (atI l n)) ∧ Ext w w' := by
  obtain ⟨a, cap, -, c1, hr⟩ := h.parts
  have e1 := (Ext.refl w).alloc (.cells #[.string (str n)] 9)
  have hi := indexAt_any _ l n w.heap.size _ (hr.ext e1) (cell_at (heap_alloc_new w _) 0 rfl)
  have c2 := e1.cell c1
  clear hr c1 h
  go_enter Tryd.func61, Tryd.ntmps61
  go_wp2_with (go_at_call 85; refine hi.mono ?_; rintro e w2 ⟨rfl, e2⟩)
  go_ret
  exact ⟨rfl, e1.trans e2⟩
set_option maxHeartbeats 1000000 in
theorem clone_any (v : Value) (l : List Rec) (w : World) (h : Recs w v l) (hl : l.length ≤ 1000) :
    Calls Tryd.prog 62 #[v] w (Ret fun u w' => OwnR w' (fun k => w.heap.size ≤ k) u l ∧ (∃ a cap, u = .slice a l.length cap) ∧ Ext w w') := by
  have hp := h
  have e0 := Ext.refl w
  have hq : ∀ (W : World) (a : Option Addr) (n c : Nat), (binOp .eql 22 (.slice a n c) (.slice none 0 0)).run Tryd.prog W = .ok (.bool a.isNone) W := fun W a n c => by
    simp only [binOp]
    simp [run_equal_slice_nil W 22 36 a n c Tryd.underlying22]
  obtain ⟨a, cap, rfl, h2, h3, h4, h5⟩ := h
  cases a with
  | none =>
    have hc := h4 rfl
    subst hc
    obtain rfl : l = [] := List.eq_nil_of_length_eq_zero (by omega)
    go_enter Tryd.func62, Tryd.ntmps62
    go_wp2
    go_ret
    exact Ret.mk ⟨OwnR.nil w _, ⟨_, _, rfl⟩, e0⟩
  | some ad =>
    have hpp := Lib.hid hp
    have heh := Lib.hid (e0.alloc (.cells #[] 36))
    have hown := Lib.hid (OwnR.empty (w := w) (F := fun k => w.heap.size ≤ k) rfl (Nat.le_refl _))
    clear hp h5 e0 h2 h3
    go_enter Tryd.func62, Tryd.ntmps62
    go_wp2_with (refine wpList_appendR (by rfl) _ _ rfl (fun k => w.heap.size ≤ k) _ [] rfl hown.out _ l rfl (hpp.out.ext heh.out) (by simp; omega) ?_; intro v' w' g1 g2; obtain ⟨a', cap', rfl⟩ := g1.shape)
    go_ret
    refine Ret.mk ⟨?_, ⟨_, _, rfl⟩, heh.out.chg g2 fun _ h => h⟩
    rw [List.nil_append] at g1
    exact g1.mono fun k hk => hk.elim id fun h => Nat.le_trans ((Ext.refl w).alloc _).size h
theorem all_any {F : Nat → Prop} {p room : Nat} {l : List Rec} {w : World} (h : TrM 96 w F p room l) (hl : l.length ≤ 1000) :
    Calls Tryd.prog 25 #[.pointer (some ⟨p, 0, none⟩)] w (Ret fun u w' => OwnR w' (fun k => w.heap.size ≤ k) u l ∧ (∃ a cap, u = .slice a l.length cap) ∧ Ext w w') := by
  obtain ⟨a, cap, -, c1, hr⟩ := h.parts
  have hc := clone_any _ l w hr hl
  clear hr h
  go_enter Tryd.func25, Tryd.ntmps25
  go_wp2_with (go_at_call 62; refine hc.mono ?_; rintro e w2 ⟨u, rfl, ho, ⟨a2, cap2, rfl⟩, e2⟩)
  go_ret
  exact Ret.mk ⟨ho, ⟨_, _, rfl⟩, e2⟩
end Go.Proofs.YtmdepmohfnficaaDoor


namespace Go.Proofs.YtmdepmohfnficaaDoor
set_option linter.unusedVariables false
set_option linter.unusedSimpArgs false
open Go.RowKit Rk Tr

namespace Tr
def getR (l : List Rec) (n : List UInt8) : Rec := match ix l n with
  | none => zero
  | some i => l.getD i zero
def isIn (l : List Rec) (n : List UInt8) : Bool := (ix l n).isSome
theorem kids_step {l : List Rec} {k : Nat} {r : Rec} (h : l[k]? = some r) (n : List UInt8) : kids (l.take (k + 1)) n = kids (l.take k) n ++ if seq n [] = false ∧ seq r.par n = true then [r.name] else [] := by
  unfold kids
  by_cases h0 : n = []
  · subst h0
    have : seq ([] : List UInt8) [] = true := seq_true.2 rfl
    simp [this]
  · have h1 : seq n [] = false := seq_false.2 h0
    rw [if_neg h0, if_neg h0, List.take_add_one, h, List.filter_append, List.map_append]
    cases h2 : seq r.par n
    · simp [h2]
    · simp [h1, h2]
theorem kids_len (l : List Rec) (n : List UInt8) (k : Nat) : (kids (l.take k) n).length ≤ k := by
  unfold kids
  split
  · simp
  · rw [List.length_map]
    refine Nat.le_trans (List.length_filter_le _ _) ?_
    rw [List.length_take]; omega
end Tr
theorem seq_nil_str (n : List UInt8) : seq n [] = decide (n = []) := by
  by_cases h : n = []
  · rw [seq_true.2 h]; simp [h]
  · rw [seq_false.2 h]; simp [h]
theorem Own.shapeN {E : TypeId} {w : World} {base : Nat} {v : Value} {l : List (List UInt8)} (h : Own sv E w base v l) : ∃ a cap, v = .slice a l.length cap := let ⟨a, cap, h, _⟩ := h.shape; ⟨a, cap, h⟩
def slen : Value → Nat
  | .slice _ n _ => n
  | _ => 0
theorem zc_rc : zcells = rcells zero := rfl
theorem zc_size (r : Rec) : zcells.size = (rcells r).size := rfl
theorem rc_one (r : Rec) : (rcells r).all (·.oneCell') = true := rcells_one r
attribute [local irreducible] rcells
set_option maxRecDepth 20000 in
set_option maxHeartbeats 1000000 in
theorem get_any {F : Nat → Prop} {p room : Nat} {l : List Rec} (n : List UInt8) {w : World} (h : TrM 96 w F p room l) :
    Calls Tryd.prog 41 #[.pointer (some ⟨p, 0, none⟩), .string (str n)] w fun e w' => e = .returned (.tuple #[.agg (rcells (getR l n)), .bool (isIn l n)]) ∧ Ext w w' := by
  have e1 := (Ext.refl w).alloc (.cells zcells 36)
  have hz := heap_alloc_new w (.cells zcells 36)
  have hat := Lib.hid (fun W (e : Ext w W) => at_any n (h.ext e))
  have hpt := Lib.hid (fun W (e : Ext w W) => (h.ext e).parts)
  rcases atI_cases l n with ⟨h1, h2⟩ | ⟨i, r, h1, h2, h3, -⟩
  · have hR := Lib.hid (show getR l n = zero ∧ isIn l n = false from by unfold getR isIn; rw [h1]; exact ⟨rfl, rfl⟩)
    rw [h2] at hat
    clear h1 h2 h hpt
    have hzh := Lib.hid hz
    have e1h := Lib.hid e1
    clear hz e1
    go_enter Tryd.func41, Tryd.ntmps41
    go_wp2_with (first
      | (go_at_call 61; refine (hat.out _ e1h.out).mono ?_; rintro e w2 ⟨rfl, e2⟩; have hz2 := Lib.hid (e2.heap hzh.out))
      | (refine wpList_store_row rfl 36 _ _ rfl w.heap.size zcells rfl rfl 36 zcells hz2.out info_rec rfl zcells_one ?_))
    refine bodyPost_ret (results_rec rfl _ _ w.heap.size zcells rfl (setRow_heap w2 w.heap.size zcells zcells _ _ hz2.out) info_rec) rfl ⟨?_, (e1h.out.trans e2).setRow (Nat.le_refl _) _⟩
    rw [hR.out.1, hR.out.2, ← zc_rc]; rfl
  · have hR := Lib.hid (show getR l n = r ∧ isIn l n = true from by unfold getR isIn; rw [h1]; exact ⟨getD_at h3, rfl⟩)
    rw [h2] at hat
    have hil : (i : Int) < (l.length : Int) := by
      have := (List.getElem?_eq_some_iff.1 h3).1
      omega
    have hzh := Lib.hid hz
    have e1h := Lib.hid e1
    have h3h := Lib.hid h3
    clear h1 h2 h hz e1 h3
    go_enter Tryd.func41, Tryd.ntmps41
    go_upto_region 3 with (first
      | (go_at_call 61; refine (hat.out _ e1h.out).mono ?_; rintro e w2 ⟨rfl, e2⟩; have hz2 := Lib.hid (e2.heap hzh.out)))
    obtain ⟨a, cap, -, c1, hr⟩ := hpt.out w2 (e1h.out.trans e2)
    obtain ⟨a', cap', hq, -, hget⟩ := Rw.shape hr
    cases hq
    obtain ⟨g, o, cs, rfl, hrr, rfl, -⟩ := hget i r h3h.out
    clear hr hget
    go_wp2_with (first
      | (refine wpList_load_rec (by rfl) _ rfl g (o + i * 10) rfl r hrr ?_)
      | (refine wpList_store_row rfl 36 _ _ rfl w.heap.size (rcells r) rfl rfl 36 zcells hz2.out (rc_sz r) (zc_size r) (rc_one r) ?_))
    refine bodyPost_ret (results_rec rfl _ _ w.heap.size (rcells r) rfl (setRow_heap w2 w.heap.size zcells (rcells r) _ _ hz2.out) (rc_sz r)) rfl ⟨?_, (e1h.out.trans e2).setRow (Nat.le_refl _) _⟩
    rw [hR.out.1, hR.out.2]; rfl
theorem wpList_store_new {P : Program} {ops : Array Oper} {rest : List Oper} {o : Oper} {a : Act} {w : World} {Q : Exit → Act → World → Prop} (W : World) (hgd : o.guard = none) (ty : TypeId) (x y : Operand) (hop : o.op = .store ty x y)
    (cells old : Array Value) (hW : w = W.alloc (.cells old ty)) (hx : a.eval x = .pointer (some ⟨W.heap.size, 0, none⟩)) (hy : a.eval y = .agg cells) (n : Nat) (hi : (P.info? ty).map (·.size) = some n) (hn : cells.size = n) (ho : old.size = n) (h1 : cells.all (·.oneCell') = true)
    (h : wpList P ops Q rest (a.put o.dst undef) (W.alloc (.cells cells ty))) : wpList P ops Q (o :: rest) a w := by
  subst hW
  have hi : (P.info? ty).map (·.size) = some cells.size := by rw [hn]; exact hi
  have hold : old.size = cells.size := ho.trans hn.symm
  refine wpList_store_row hgd ty x y hop W.heap.size cells hx hy ty old (heap_alloc_new W _) hi hold h1 ?_
  rw [show (W.alloc (.cells old ty)).setRow W.heap.size cells = W.alloc (.cells cells ty) from ?_]
  · exact h
  · simp only [World.setRow, World.alloc]
    congr 1
    apply Array.ext_getElem?
    intro i
    rw [Array.getElem?_modify]
    by_cases h : W.heap.size = i
    · subst h
      simp
    · have h' : ¬ i = W.heap.size := fun e => h e.symm
      simp [h, h', Array.getElem?_push]
theorem rc_ten (r : Rec) : (rcells r).size = 10 := (zc_size r).symm
set_option maxRecDepth 20000 in
set_option maxHeartbeats 1000000 in
theorem kids_any {F : Nat → Prop} {p room : Nat} {l : List Rec} (n : List UInt8) {w : World} (h : TrM 96 w F p room l) (hl : l.length ≤ 1000) :
    Calls Tryd.prog 42 #[.pointer (some ⟨p, 0, none⟩), .string (str n)] w (Ret fun u w' => Own sv 9 w' w.heap.size u (kids l n) ∧ Ext w w') := by
  obtain ⟨a, cap, -, c1, hr⟩ := h.parts
  have e0 := Ext.refl w
  obtain ⟨a', cap', hq, hlen, hget⟩ := Rw.shape hr
  cases hq
  have hgh := Lib.hid hget
  clear hget hr h
  go_enter Tryd.func42, Tryd.ntmps42
  go_wp2
  go_loopw [5, 13] (fun out i wr => ∃ k : Nat, k ≤ l.length ∧ i = .int .i64 (k : Int) ∧ (∃ a1 c1, out = .slice a1 (kids (l.take k) n).length c1) ∧ RowKit.Hid (Own sv 9 wr w.heap.size out (kids (l.take k) n)) ∧ Ext w wr) (fun _ i _ => l.length - (intOf i).toNat)
  case atStart => exact ⟨0, Nat.zero_le _, rfl, ⟨none, 0, by simp [kids]⟩, Lib.hid (by rw [show kids (l.take 0) n = [] by simp [kids]]; exact Own.nil _ _ _), e0⟩
  case round =>
    obtain ⟨k, hk, rfl, ⟨a1, c1', rfl⟩, ho, ek⟩ := hrel
    clear e0
    by_cases hlt : k < l.length
    · obtain ⟨x, hx⟩ := some_at hlt
      obtain ⟨g, o, cs, rfl, hrr, rfl, -⟩ := hgh.out k x hx
      have hki : (k : Int) < (l.length : Int) := by omega
      have hw : IntKind.i64.wrap ((k : Int) + 1) = (k : Int) + 1 := by rw [IntKind.wrap_i64]; omega
      have hr2 : wr.rangeAt g (o + k * 10) (prow x) := fun i u hu => ek.cell (hrr i u hu)
      have hst := Lib.hid (kids_step hx n)
      have hkl := Lib.hid (kids_len l n k)
      clear hrr hx
      go_upto_region 5 with (first
        | (refine wpList_load_rec (by rfl) _ rfl g (o + k * 10) rfl x hr2 ?_)
        | (refine wpList_store_new wr rfl 36 _ _ rfl (rcells x) _ rfl rfl rfl 10 info_rec (rc_ten x) rfl (rc_one x) ?_))
      have hg := heap_alloc_new wr (.cells (rcells x) 36)
      have k1 := cell_at hg 1 (rc_cells x).2.1
      have k2 := cell_at hg 2 (rc_cells x).2.2
      have e1 := ek.alloc (.cells (rcells x) 36)
      have ho1 := Lib.hid (ho.out.alloc (.cells (rcells x) 36))
      have hs1 := Lib.hid e1.size
      generalize wr.alloc (.cells (rcells x) 36) = W1 at *
      generalize wr.heap.size = B1 at *
      clear hg ho hr2 ek
      cases h0 : seq n []
      · cases h2 : seq x.par n
        · have hst2 := Lib.hid (hst.out.trans (by rw [h0, h2]; simp : _ = kids (l.take k) n))
          clear hst
          go_wp2
          go_roundw
          case rel => exact ⟨k + 1, by omega, by go_num, ⟨_, _, by rw [hst2.out]⟩, Lib.hid (by rw [hst2.out]; exact ho1.out), e1⟩
          case measure => simp [intOf]; omega
        · have hst2 := Lib.hid (hst.out.trans (by rw [h0, h2]; simp : _ = kids (l.take k) n ++ [x.name]))
          clear hst
          go_wp2_with (refine wpList_appendS (enc := sv) Tryd.underlying39 info_strS rfl (fun _ => rfl) rfl _ _ rfl w.heap.size _ (kids (l.take k) n) rfl (ho1.out.alloc _) _ [x.name] rfl (Sl.lit rfl rfl rfl (by decide) (by decide)) (by have := hkl.out; simp only [List.length_singleton]; omega) (by have := hkl.out; simp only [List.length_singleton]; omega) (Nat.le_trans hs1.out ((Ext.refl W1).alloc _).size) ?_; intro v3 w3 o3 g3; obtain ⟨a3, cap3, rfl⟩ := o3.shapeN)
          rw [List.length_append, List.length_singleton] at o3
          go_roundw
          case rel => exact ⟨k + 1, by omega, by go_num, ⟨a3, cap3, by rw [hst2.out, List.length_append]; rfl⟩, Lib.hid (by rw [hst2.out]; exact o3), (e1.alloc _).grown g3 (fun k hk => ho1.out.lt k hk)⟩
          case measure => simp [intOf]; omega
      · have hst2 := Lib.hid (hst.out.trans (by rw [h0]; simp : _ = kids (l.take k) n))
        clear hst
        go_wp2
        go_roundw
        case rel => exact ⟨k + 1, by omega, by go_num, ⟨_, _, by rw [hst2.out]⟩, Lib.hid (by rw [hst2.out]; exact ho1.out), e1⟩
        case measure => simp [intOf]; omega
    · obtain rfl : k = l.length := by omega
      have ho2 := ho.out
      rw [List.take_length] at ho2
      have hoh := Lib.hid ho2
      rw [List.take_length]
      clear ho2 ho
      go_wp2
      go_ret
      exact Ret.mk ⟨hoh.out, ek⟩
end Go.Proofs.YtmdepmohfnficaaDoor


namespace Go.Proofs.YtmdepmohfnficaaDoor
set_option linter.unusedVariables false
set_option linter.unusedSimpArgs false
open Go.RowKit Rk Tr

namespace Tr
theorem path_len {l : List Rec} (h : Ok l) : ∀ (i : Nat) (n : List UInt8), ix l n = some i → (path l n).length ≤ i + 1
  | i, n, hi => by
    obtain ⟨r, hr, -⟩ := ix_some hi
    rw [path_step h hi hr, List.length_cons]
    rcases ix_par h hr with ⟨-, h1⟩ | ⟨j, t, h1, h2, h3, h4⟩
    · rw [path_none h1]; simp
    · have := path_len h j r.par h4
      omega
termination_by i => i
theorem path_le {l : List Rec} (h : Ok l) (n : List UInt8) : (path l n).length ≤ l.length := by
  cases hi : ix l n with
  | none => rw [path_none hi]; simp
  | some i =>
    have := path_len h i n hi
    have := ix_lt hi
    omega
end Tr
theorem prow_cells (r : Rec) : (prow r)[0]? = some (.int .i64 r.kind) ∧ (prow r)[1]? = some (.string (str r.name)) ∧ (prow r)[2]? = some (.string (str r.par)) := ⟨rfl, rfl, rfl⟩
attribute [local irreducible] rcells
set_option maxRecDepth 20000 in
set_option maxHeartbeats 1000000 in
theorem path_any {F : Nat → Prop} {p room : Nat} {l : List Rec} (n : List UInt8) {w : World} (h : TrM 96 w F p room l) (hok : Ok l) (hl : l.length ≤ 1000) :
    Calls Tryd.prog 35 #[.pointer (some ⟨p, 0, none⟩), .string (str n)] w (Ret fun u w' => Own sv 9 w' w.heap.size u (path l n) ∧ Ext w w') := by
  have hat := Lib.hid (fun m W (e : Ext w W) => at_any m (h.ext e))
  obtain ⟨a, cap, -, cc0, hr0⟩ := h.parts
  obtain ⟨a', cap', hq, -, hget0⟩ := Rw.shape hr0
  cases hq
  have hgh := Lib.hid hget0
  have e0 := Ext.refl w
  clear hget0 hr0
  have hokh := Lib.hid hok
  have hpl := Lib.hid (Nat.le_trans (path_le hok n) hl)
  clear h hok
  go_enter Tryd.func35, Tryd.ntmps35
  go_wp2_with (go_at_call 61; refine (hat.out n _ e0).mono ?_; rintro e w2 ⟨rfl, e2⟩)
  go_loopw [5, 6] (fun out i wr => ∃ (S : List (List UInt8)) (m : List UInt8) (a1 : Option Addr) (c1 : Nat), i = .int .i64 (atI l m) ∧ RowKit.Hid (path l n = S ++ path l m) ∧ out = .slice a1 S.length c1 ∧ RowKit.Hid (Own sv 9 wr w.heap.size out S) ∧ Ext w wr) (fun _ i _ => (intOf i + 1).toNat)
  case atStart => exact ⟨[], n, none, 0, rfl, Lib.hid rfl, rfl, Lib.hid (Own.nil _ _ _), e2⟩
  case round =>
    obtain ⟨S, m, a1, c1, rfl, hp, rfl, ho, ek⟩ := hrel
    rcases atI_cases l m with ⟨h1, h2⟩ | ⟨j, r, h1, h2, h3, h4⟩
    · have hp2 := hp.out
      rw [path_none h1, List.append_nil] at hp2
      have hph := Lib.hid hp2
      rw [h2]
      clear h1 h2 hp hp2
      go_wp2
      go_ret
      exact Ret.mk ⟨by rw [hph.out]; exact ho.out, ek⟩
    · have hps := path_step hokh.out h1 h3
      have hp2 := Lib.hid (hp.out.trans (by rw [hps, ← h4]; simp : _ = (S ++ [r.name]) ++ path l r.par))
      have hSl := Lib.hid (show S.length + 1 ≤ 1000 from by
        have := congrArg List.length hp2.out
        have := hpl.out
        simp only [List.length_append, List.length_singleton] at *
        omega)
      have hjl : (j : Int) < (l.length : Int) := by
        have := (List.getElem?_eq_some_iff.1 h3).1
        omega
      have hj0 : (0 : Int) ≤ (j : Int) := by omega
      have hpar := Lib.hid (ix_par hokh.out h3)
      obtain ⟨g, o, cs, rfl, hrr, rfl, -⟩ := hgh.out j r h3
      have k1 := ek.cell (hrr 1 _ (prow_cells r).2.1)
      have cc := ek.cell cc0
      have k2h := Lib.hid (hrr 2 _ (prow_cells r).2.2)
      have cch := Lib.hid cc0
      have hs1 := Lib.hid ek.size
      rw [h2]
      clear hrr hps hp h1 h2 h4 h3 cc0
      go_upto_region 4 with (refine wpList_appendS (enc := sv) Tryd.underlying39 info_strS rfl (fun _ => rfl) rfl _ _ rfl w.heap.size _ S rfl (ho.out.alloc _) _ [r.name] rfl (Sl.lit rfl rfl rfl (by decide) (by decide)) (by have := hSl.out; simp only [List.length_singleton]; omega) (by have := hSl.out; simp only [List.length_singleton]; omega) (Nat.le_trans hs1.out ((Ext.refl wr).alloc _).size) ?_; intro v3 w3 o3 g3; obtain ⟨a3, cap3, rfl⟩ := o3.shapeN)
      rw [List.length_append, List.length_singleton] at o3
      have e3 := (ek.alloc (.cells #[.string (str r.name)] 9)).grown g3 (fun k hk => ho.out.lt k hk)
      have k2 := e3.cell k2h.out
      have cc3 := e3.cell cch.out
      have hs3 := Lib.hid o3
      clear k1 cc ek g3 o3 ho
      go_wp2_with (go_at_call 61; refine (hat.out r.par _ e3).mono ?_; rintro e w4 ⟨rfl, e4⟩)
      go_roundw
      case rel => exact ⟨S ++ [r.name], r.par, a3, cap3, rfl, Lib.hid hp2.out, by rw [List.length_append]; rfl, Lib.hid (hs3.out.ext e4), e3.trans e4⟩
      case measure =>
        rcases hpar.out with ⟨-, h5⟩ | ⟨j', t, h5, -, -, h6⟩
        · rw [atI_none h5]; simp [intOf]
        · rw [atI_some h6]; simp [intOf]; omega
end Go.Proofs.YtmdepmohfnficaaDoor


namespace Go.Proofs.YtmdepmohfnficaaDoor
set_option linter.unusedVariables false
set_option linter.unusedSimpArgs false
open Go.RowKit Rk Tr

theorem Own.chgB {α : Type} {enc : α → Value} {E : TypeId} {w w' : World} {base : Nat} {v : Value} {l : List α} {p : Nat → Prop} (h : Own enc E w base v l) (c : Chg p w w') (hp : ∀ k, v.ownBlock = some k → ¬ p k) : Own enc E w' base v l := by
  obtain ⟨h0, h⟩ := h
  refine ⟨h0, ?_⟩
  rcases h with h | ⟨g, cap, cur, rfl, h1, hh, h2⟩
  · exact .inl h
  · exact .inr ⟨g, cap, cur, rfl, h1, by rw [c.block g (Array.getElem?_eq_some_iff.1 hh).1 (hp g rfl)]; exact hh, h2⟩
theorem Own.ltB {α : Type} {enc : α → Value} {E : TypeId} {w : World} {base : Nat} {v : Value} {l : List α} (h : Own enc E w base v l) : ∀ k, v.ownBlock = some k → k < w.heap.size := fun k hk => (World.ownsRow.lt h k hk).2
/-- the cells that Below lays: the tree's pointer, what is collected, the walk itself -/
structure BelW (w : World) (b p : Nat) : Prop where
  tree : w.heap[b]? = some (.cells #[.pointer (some ⟨p, 0, none⟩)] 28 (0, 0))
  walk : w.heap[b + 2]? = some (.cells #[.func (.func 60) #[] #[.pointer (some ⟨b + 1, 0, none⟩), .pointer (some ⟨b, 0, none⟩), .pointer (some ⟨b + 2, 0, none⟩)]] 93 (0, 0))
/-- what is collected -/
def Coll (w : World) (b : Nat) (F : Nat → Prop) (S : List (List UInt8)) : Prop := ∃ v, w.heap[b + 1]? = some (.cells #[v] 39 (0, 0)) ∧ OwnO sv 9 w F v S
theorem Coll.mono {w : World} {b : Nat} {F G : Nat → Prop} {S : List (List UInt8)} (h : Coll w b F S) (k : ∀ j, F j → G j) : Coll w b G S := let ⟨v, h1, h2⟩ := h; ⟨v, h1, h2.mono k⟩
theorem Coll.ext {w w' : World} {b : Nat} {F : Nat → Prop} {S : List (List UInt8)} (h : Coll w b F S) (e : Ext w w') : Coll w' b F S := let ⟨v, h1, h2⟩ := h; ⟨v, e.heap h1, h2.ext e⟩
theorem Chg.then {p q : Nat → Prop} {a b c : World} (h : Chg p a b) (k : Chg q b c) (hq : ∀ i, i < a.heap.size → q i → p i) : Chg p a c :=
  ⟨k.os.trans h.os, k.tape.trans h.tape, k.output.trans h.output, Nat.le_trans h.size k.size, fun i hi hp => (k.block i (Nat.lt_of_lt_of_le hi h.size) fun e => hp (hq i hi e)).trans (h.block i hi hp)⟩
theorem BelW.chg {w w' : World} {b p : Nat} {P : Nat → Prop} (h : BelW w b p) (c : Chg P w w') (h0 : ¬ P b) (h2 : ¬ P (b + 2)) : BelW w' b p :=
  ⟨by rw [c.block b (Array.getElem?_eq_some_iff.1 h.tree).1 h0]; exact h.tree, by rw [c.block _ (Array.getElem?_eq_some_iff.1 h.walk).1 h2]; exact h.walk⟩
theorem flat_take {α β : Type} {f : α → List β} : ∀ (l : List α) (j : Nat) (x : α), l[j]? = some x → (l.take (j + 1)).flatMap f = (l.take j).flatMap f ++ f x
  | l, j, x, h => by rw [List.take_add_one, h, List.flatMap_append]; simp
theorem flat_take_len {α β : Type} {f : α → List β} (l : List α) (j : Nat) : ((l.take j).flatMap f).length ≤ (l.flatMap f).length := by
  conv => rhs; rw [← List.take_append_drop j l, List.flatMap_append, List.length_append]
  omega
attribute [local irreducible] rcells
set_option maxRecDepth 20000 in
set_option maxHeartbeats 2000000 in
theorem walk_any {F : Nat → Prop} {p room : Nat} {l : List Rec} (hok : Ok l) (hl : l.length ≤ 1000) : ∀ (d i : Nat) (n : List UInt8), ix l n = some i → l.length - i ≤ d → ∀ (w : World) (b : Nat) (G : Nat → Prop) (S : List (List UInt8)),
    TrM 96 w (fun k => F k ∧ k < b) p room l → BelW w b p → Coll w b (fun k => G k ∧ b + 3 ≤ k) S → S.length + (belowF l d n).length ≤ 1000000 →
    Calls Tryd.prog 60 #[.string (str n), .pointer (some ⟨b + 1, 0, none⟩), .pointer (some ⟨b, 0, none⟩), .pointer (some ⟨b + 2, 0, none⟩)] w fun e w' => e = .returned (.tuple #[]) ∧ Coll w' b (fun k => (G k ∨ w.heap.size ≤ k) ∧ b + 3 ≤ k) (S ++ belowF l d n) ∧ Chg (fun k => k = b + 1 ∨ (G k ∧ b + 3 ≤ k)) w w'
  | 0, i, n, hi, hd, _, _, _, _, _, _, _, _ => by have := ix_lt hi; omega
  | d + 1, i, n, hi, hd, w, b, G, S, ht, hb, hc, hlen => by
    have IH := fun m j hm hj W G' S' => walk_any (F := F) (p := p) (room := room) hok hl d j m hm hj W b G' S'
    obtain ⟨v, hv, ho⟩ := hc
    have hb2 : b + 2 < w.heap.size := (Array.getElem?_eq_some_iff.1 hb.walk).1
    have cv := cell_at hv 0 rfl
    have hlen2 := hlen
    rw [belowF, List.length_cons] at hlen2
    obtain ⟨a0, cap0, rfl⟩ := ho.shape
    have hvh := Lib.hid hv
    have hoh := Lib.hid ho
    have hbh := Lib.hid hb
    have hth := Lib.hid ht
    clear hv ho hb ht
    go_enter Tryd.func60, Tryd.ntmps60
    go_upto_region 1 with (refine wpList_appendO (enc := sv) Tryd.underlying39 info_strS rfl (fun _ => rfl) rfl _ _ rfl (fun k => G k ∧ b + 3 ≤ k) _ S rfl (hoh.out.ext ((Ext.refl w).alloc _)) _ [n] rfl (Sl.lit rfl rfl rfl (by decide) (by decide)) (by simp only [List.length_singleton]; omega) (by simp only [List.length_singleton]; omega) ?_; intro v1 w1 o1 c1; obtain ⟨a1, cap1, rfl⟩ := o1.shape; have hv1 := (c1.block (b + 1) (Nat.lt_of_lt_of_le (by omega) ((Ext.refl w).alloc _).size) (fun h => by have := h.2; omega)).trans (((Ext.refl w).alloc _).heap hvh.out); have cv1 := cell_at hv1 0 rfl; have fv1 := frozen_of_row w1 (b + 1) 0 _ _ hv1)
    rw [List.length_append, List.length_singleton] at o1
    have c01 : Chg (fun k => G k ∧ b + 3 ≤ k) w w1 := (Chg.of_ext ((Ext.refl w).alloc _)).trans c1
    have c02 : Chg (fun k => k = b + 1 ∨ (G k ∧ b + 3 ≤ k)) w (w1.setCell ⟨b + 1, 0, none⟩ (.slice a1 (S.length + 1) cap1)) := (c01.mono fun k h => .inr h).setCell (fun _ => .inl rfl) _
    have hv2 : (w1.setCell ⟨b + 1, 0, none⟩ (.slice a1 (S.length + 1) cap1)).heap[b + 1]? = some (.cells #[.slice a1 (S.length + 1) cap1] 39 (0, 0)) := heap_setCell_same w1 (b + 1) 0 _ _ _ hv1
    have o2 := o1.chg (G := fun k => k = b + 1) ((Chg.refl (fun k => k = b + 1) w1).setCell (x := ⟨b + 1, 0, none⟩) (fun _ => rfl) (.slice a1 (S.length + 1) cap1)) (fun k hk e => by
      subst e
      rcases hk with h | h
      · have := h.2; omega
      · have := ((Ext.refl w).alloc (.cells #[.string (str n)] 9)).size; omega)
    have o2 := (o2.mono (G := fun k => (G k ∨ w.heap.size ≤ k) ∧ b + 3 ≤ k) fun k hk => by
      rcases hk with h | h
      · exact ⟨.inl h.1, h.2⟩
      · have := ((Ext.refl w).alloc (.cells #[.string (str n)] 9)).size
        exact ⟨.inr (by omega), by omega⟩).lt
    generalize w1.setCell ⟨b + 1, 0, none⟩ (.slice a1 (S.length + 1) cap1) = w2 at *
    have hbw2 := hbh.out.chg c02 (by omega) (by omega)
    have ht2 := hth.out.chg c02 (fun k hk _ h => by have := hk.2; omega)
    have hkd := kids_any n ht2 hl
    have cT := cell_at hbw2.tree 0 rfl
    have c02h := Lib.hid c02
    have hv2h := Lib.hid hv2
    have o2h := Lib.hid o2
    have ht2h := Lib.hid ht2
    have hb2h := Lib.hid hbw2
    clear c02 hv2 o2 ht2 hbw2 o1 c1 c01 hv1 cv1 fv1 cv
    obtain ⟨K, hK⟩ : ∃ K, K = kids l n := ⟨_, rfl⟩
    have hKid := Lib.hid (fun c (hc : c ∈ K) => kid_at hok hi (by rw [← hK]; exact hc))
    have hKl := Lib.hid (kids_len l n l.length)
    rw [← hK] at hkd hlen2
    have hKe := Lib.hid (show belowF l (d + 1) n = n :: K.flatMap (belowF l d) from by rw [belowF, hK])
    rw [List.take_length, ← hK] at hKl
    clear hK
    go_wp2_with (go_at_call 42; refine hkd.mono ?_; rintro e w3 ⟨kv, rfl, hkv, e3⟩; obtain ⟨ak, ck, rfl⟩ := hkv.shapeN)
    have hw23 := Lib.hid e3.size
    have hw02 := Lib.hid c02h.out.size
    have hkvh := Lib.hid hkv
    have hkb := Lib.hid hkv.ltB
    have e3h := Lib.hid e3
    have hKn : (K.length : Int) ≤ 1000 := by have := hKl.out; omega
    obtain ⟨G3, hG3⟩ : ∃ G3 : Nat → Prop, G3 = fun k => ((G k ∨ w.heap.size ≤ k) ∧ k < w2.heap.size) ∨ w3.heap.size ≤ k := ⟨_, rfl⟩
    have hGk : RowKit.Hid (∀ k, G3 k ↔ ((G k ∨ w.heap.size ≤ k) ∧ k < w2.heap.size) ∨ w3.heap.size ≤ k) := Lib.hid fun k => by rw [hG3]
    have hst0 : RowKit.Hid (Coll w3 b (fun k => G3 k ∧ b + 3 ≤ k) (S ++ [n])) := Lib.hid ⟨_, e3.heap hv2h.out, (o2h.out.ext e3).mono fun k hk => ⟨(hGk.out k).2 (.inl ⟨hk.1.1, hk.2⟩), hk.1.2⟩⟩
    have hc03 : RowKit.Hid (Chg (fun k => k = b + 1 ∨ (G k ∧ b + 3 ≤ k)) w w3) := Lib.hid (c02h.out.ext e3)
    have ht3 : RowKit.Hid (TrM 96 w3 (fun k => F k ∧ k < b) p room l) := Lib.hid (ht2h.out.ext e3)
    have hb3 : RowKit.Hid (BelW w3 b p) := Lib.hid (hb2h.out.chg (P := fun _ => False) (Chg.of_ext e3) id id)
    clear hkv e3 hv2h o2h c02h ht2h hb2h hG3 hth hbh hoh hvh cT
    go_loopw [15] (fun i wr => ∃ j : Nat, j ≤ K.length ∧ i = .int .i64 (j : Int) ∧ RowKit.Hid (Coll wr b (fun k => G3 k ∧ b + 3 ≤ k) (S ++ [n] ++ (K.take j).flatMap (belowF l d))) ∧ RowKit.Hid (Own sv 9 wr w2.heap.size (.slice ak K.length ck) K) ∧ RowKit.Hid (TrM 96 wr (fun k => F k ∧ k < b) p room l) ∧ RowKit.Hid (BelW wr b p) ∧ RowKit.Hid (Chg (fun k => k = b + 1 ∨ (G k ∧ b + 3 ≤ k)) w wr) ∧ RowKit.Hid (w3.heap.size ≤ wr.heap.size)) (fun i _ => K.length - (intOf i).toNat)
    case atStart => exact ⟨0, Nat.zero_le _, rfl, Lib.hid (by simpa using hst0.out), hkvh, ht3, hb3, hc03, Lib.hid (Nat.le_refl _)⟩
    case round =>
      obtain ⟨j, hj, rfl, hcr, hkr, htr, hbr, hcg, hsz⟩ := hrel
      clear hst0 hkvh ht3 hb3 hc03
      by_cases hlt : j < K.length
      · obtain ⟨c, hcj⟩ := some_at hlt
        obtain ⟨q, rq, hq1, hq2, hq3, hq4, hq5⟩ := hKid.out c (List.mem_of_getElem? hcj)
        have hji : (j : Int) < (K.length : Int) := by omega
        have hwj : IntKind.i64.wrap ((j : Int) + 1) = (j : Int) + 1 := by rw [IntKind.wrap_i64]; omega
        obtain ⟨_, _, hsq, hsl⟩ := hkr.out.sl
        simp only [Value.slice.injEq] at hsq
        obtain ⟨rfl, -, rfl⟩ := hsq
        obtain ⟨gk, ok, rfl, hck⟩ := hsl.cells j c hcj
        unfold sv at hck
        have cW := cell_at hbr.out.walk 0 rfl
        have hft := Lib.hid (flat_take (f := belowF l d) K j c hcj)
        have hfl := Lib.hid (flat_take_len (f := belowF l d) K (j + 1))
        have hIH := IH c q hq5 (by omega) wr G3 _ htr.out hbr.out hcr.out (by
          have h1 := congrArg List.length hft.out
          have h2 := hfl.out
          simp only [List.length_append, List.length_singleton] at *
          omega)
        clear hsl hcj hq1 hq2 hq3 hq4 hq5 hcr
        go_wp2_with (go_at_call 60; refine hIH.mono ?_; rintro e w5 ⟨rfl, hc5, g5⟩)
        have hle := g5.size
        have h3r := hsz.out
        have h23 := hw23.out
        have h02 := hw02.out
        go_roundw
        case rel =>
          refine ⟨j + 1, by omega, by go_num, Lib.hid ?_, Lib.hid ?_, Lib.hid ?_, Lib.hid ?_, Lib.hid ?_, Lib.hid (Nat.le_trans h3r hle)⟩
          · rw [hft.out, ← List.append_assoc]
            exact hc5.mono fun k hk => ⟨hk.1.elim id fun h => (hGk.out k).2 (.inr (Nat.le_trans h3r h)), hk.2⟩
          · refine hkr.out.chgB g5 fun k hk h => ?_
            have h1 := hkr.out.lt k hk
            rcases h with h | ⟨h, -⟩
            · omega
            · rcases (hGk.out k).1 h with h | h
              · omega
              · have := hkb.out k hk; omega
          · exact htr.out.chg g5 fun k hk _ h => by have := hk.2; omega
          · exact hbr.out.chg g5 (by omega) (by omega)
          · refine hcg.out.then g5 fun k hk h => ?_
            rcases h with h | ⟨h, h'⟩
            · exact .inl h
            · rcases (hGk.out k).1 h with h | h
              · rcases h.1 with h | h
                · exact .inr ⟨h, h'⟩
                · omega
              · omega
        case measure => simp [intOf]; omega
      · obtain rfl : j = K.length := by omega
        have hc5 := hcr.out
        rw [List.take_length] at hc5
        have hc5h := Lib.hid hc5
        clear hc5 hcr
        go_wp2
        go_end0
        refine ⟨rfl, ?_, hcg.out⟩
        rw [hKe.out, show S ++ n :: K.flatMap (belowF l d) = S ++ [n] ++ K.flatMap (belowF l d) by simp]
        refine hc5h.out.mono fun k hk => ⟨?_, hk.2⟩
        rcases (hGk.out k).1 hk.1 with h | h
        · exact h.1
        · have := hw23.out
          have := hw02.out
          exact .inr (by omega)
end Go.Proofs.YtmdepmohfnficaaDoor


namespace Go.Proofs.YtmdepmohfnficaaDoor
set_option linter.unusedVariables false
set_option linter.unusedSimpArgs false
open Go.RowKit Rk Tr

theorem alloc_size (w : World) (o : Obj) : (w.alloc o).heap.size = w.heap.size + 1 := by show (w.heap.push o).size = _; rw [Array.size_push]
theorem alloc_old (w : World) (o : Obj) {k : Nat} (h : k < w.heap.size) : (w.alloc o).heap[k]? = w.heap[k]? := ((Ext.refl w).alloc o).block k h
attribute [local irreducible] rcells
set_option maxRecDepth 20000 in
set_option maxHeartbeats 2000000 in
theorem below_any {F : Nat → Prop} {p room : Nat} {l : List Rec} (n : List UInt8) {w : World} (h : TrM 96 w F p room l) (hok : Ok l) (hl : l.length ≤ 1000) (hbl : (below l n).length ≤ 1000) :
    Calls Tryd.prog 19 #[.pointer (some ⟨p, 0, none⟩), .string (str n)] w (Ret fun u w' => OwnO sv 9 w' (fun k => w.heap.size ≤ k) u (below l n) ∧ Ext w w') := by
  have hat := Lib.hid (fun W (e : Ext w W) => at_any n (h.ext e))
  have hth := Lib.hid h.lt
  have e0 := Ext.refl w
  obtain ⟨W3, hW3⟩ : ∃ W3, W3 = ((w.alloc (.cells #[.pointer (some ⟨p, 0, none⟩)] 28)).alloc (.cells #[.slice none 0 0] 39)).alloc (.cells #[.nilFunc] 93) := ⟨_, rfl⟩
  have hs1 : (w.alloc (.cells #[.pointer (some ⟨p, 0, none⟩)] 28)).heap.size = w.heap.size + 1 := alloc_size _ _
  have hs2 : ((w.alloc (.cells #[.pointer (some ⟨p, 0, none⟩)] 28)).alloc (.cells #[.slice none 0 0] 39)).heap.size = w.heap.size + 1 + 1 := by rw [alloc_size, alloc_size]
  have h3 : W3.heap[w.heap.size + 1 + 1]? = some (.cells #[.nilFunc] 93 (0, 0)) := by
    have := heap_alloc_new ((w.alloc (.cells #[.pointer (some ⟨p, 0, none⟩)] 28)).alloc (.cells #[.slice none 0 0] 39)) (.cells #[.nilFunc] 93)
    rw [hs2] at this; rw [hW3]; exact this
  have h2 : W3.heap[w.heap.size + 1]? = some (.cells #[.slice none 0 0] 39 (0, 0)) := by
    have := heap_alloc_new (w.alloc (.cells #[.pointer (some ⟨p, 0, none⟩)] 28)) (.cells #[.slice none 0 0] 39)
    rw [hs1] at this; rw [hW3, alloc_old _ _ (by rw [hs2]; omega)]; exact this
  have h1 : W3.heap[w.heap.size]? = some (.cells #[.pointer (some ⟨p, 0, none⟩)] 28 (0, 0)) := by
    have := heap_alloc_new w (.cells #[.pointer (some ⟨p, 0, none⟩)] 28)
    rw [hW3, alloc_old _ _ (by rw [hs2]; omega), alloc_old _ _ (by rw [hs1]; omega)]; exact this
  have e3 : Ext w W3 := by rw [hW3]; exact ((e0.alloc _).alloc _).alloc _
  have hz3 : W3.heap.size = w.heap.size + 3 := by rw [hW3, alloc_size, alloc_size, alloc_size]
  have c3 := cell_at h3 0 rfl
  have f3 := frozen_of_row W3 (w.heap.size + 1 + 1) 0 _ _ h3
  obtain ⟨b, hb⟩ : ∃ b, b = w.heap.size := ⟨_, rfl⟩
  have h1h := Lib.hid h1
  have h2h := Lib.hid h2
  have h3h := Lib.hid h3
  have e3h := Lib.hid e3
  have hz3h := Lib.hid hz3
  have hbh := Lib.hid hb
  clear h hs1 hs2 h1 h2 h3 hz3 e3 e0 hb
  go_enter Tryd.func19, Tryd.ntmps19
  go_upto_region 3 with fail
  rw [← hW3]
  clear hW3
  go_upto_region 4 with fail
  have hW4 := heap_setCell_same W3 (w.heap.size + 1 + 1) 0 _ _ (.func (.func 60) #[] #[.pointer (some ⟨w.heap.size + 1, 0, none⟩), .pointer (some ⟨w.heap.size, 0, none⟩), .pointer (some ⟨w.heap.size + 1 + 1, 0, none⟩)]) h3h.out
  have c34 : Chg (fun k => k = w.heap.size + 1 + 1) W3 (W3.setCell ⟨w.heap.size + 1 + 1, 0, none⟩ (.func (.func 60) #[] #[.pointer (some ⟨w.heap.size + 1, 0, none⟩), .pointer (some ⟨w.heap.size, 0, none⟩), .pointer (some ⟨w.heap.size + 1 + 1, 0, none⟩)])) := (Chg.refl (fun k => k = w.heap.size + 1 + 1) W3).setCell (x := ⟨w.heap.size + 1 + 1, 0, none⟩) (fun _ => rfl) _
  generalize W3.setCell ⟨w.heap.size + 1 + 1, 0, none⟩ (.func (.func 60) #[] #[.pointer (some ⟨w.heap.size + 1, 0, none⟩), .pointer (some ⟨w.heap.size, 0, none⟩), .pointer (some ⟨w.heap.size + 1 + 1, 0, none⟩)]) = W4 at *
  have hz3 := hz3h.out
  have e4 : Ext w W4 := e3h.out.chg c34 fun i hi => by omega
  have hB4 : BelW W4 w.heap.size p := ⟨by rw [c34.block _ (by omega) (by omega)]; exact h1h.out, hW4⟩
  have hC4 : Coll W4 w.heap.size (fun k => False ∧ w.heap.size + 3 ≤ k) [] := ⟨.slice none 0 0, by rw [c34.block _ (by omega) (by omega)]; exact h2h.out, .inl ⟨rfl, rfl⟩⟩
  have hT4 : TrM 96 W4 (fun k => F k ∧ k < w.heap.size) p room l := hth.out.ext e4
  have cT := cell_at hB4.tree 0 rfl
  have hs4 := Lib.hid e4.size
  have hz4 := Lib.hid (show w.heap.size + 3 ≤ W4.heap.size from by have := c34.size; omega)
  have e4h := Lib.hid e4
  clear c34 hW4 hz3 c3 f3 e4
  rcases atI_cases l n with ⟨h1, h2⟩ | ⟨i, r, h1, h2, h3, -⟩
  · have hbn := Lib.hid (below_none h1)
    rw [h2] at hat
    obtain ⟨v, hv, ho⟩ := hC4
    obtain rfl : v = .slice none 0 0 := by
      rcases ho with ⟨rfl, -⟩ | ⟨_, _, _, _, -, hf, -⟩
      · rfl
      · exact absurd hf.1 id
    have cv := cell_at hv 0 rfl
    have cvh := Lib.hid cv
    clear ho hv h1 h2 cv hB4 hT4
    go_upto_region 6 with (go_at_call 61; refine (hat.out _ e4h.out).mono ?_; rintro e w5 ⟨rfl, e5⟩)
    have cv5 := e5.cell cvh.out
    go_wp2
    go_ret
    exact Ret.mk ⟨.inl ⟨rfl, hbn.out⟩, e4h.out.trans e5⟩
  · rw [h2] at hat
    have hil : (0 : Int) ≤ (i : Int) := by omega
    have hbF := Lib.hid (below_F hok h1 (d := l.length) (by omega))
    have hwk := Lib.hid (fun W (e : Ext W4 W) => walk_any (F := F) (p := p) (room := room) hok hl l.length i n h1 (by omega) W w.heap.size (fun _ => False) [] (hT4.ext e) (hB4.chg (P := fun _ => False) (Chg.of_ext e) id id) (hC4.ext e) (by rw [← hbF.out]; simp; omega))
    have cWk := Lib.hid (fun W (e : Ext W4 W) => (cell_at (hB4.chg (P := fun _ => False) (Chg.of_ext e) id id : BelW W w.heap.size p).walk 0 rfl))
    clear h1 h2 h3 hB4 hC4 hT4
    go_upto_region 5 with (go_at_call 61; refine (hat.out _ e4h.out).mono ?_; rintro e w5 ⟨rfl, e5⟩)
    have cw5 := cWk.out _ e5
    go_upto_region 6 with (go_at_call 60; refine (hwk.out _ e5).mono ?_; rintro e w6 ⟨rfl, ⟨v6, hv6, ho6⟩, c6⟩)
    obtain ⟨a6, cap6, rfl⟩ := ho6.shape
    have cv6 := cell_at hv6 0 rfl
    have hoh := Lib.hid ho6
    have c6h := Lib.hid c6
    have e5h := Lib.hid e5
    clear hv6 ho6 c6 e5 cw5
    go_wp2
    go_ret
    refine Ret.mk ⟨?_, (e4h.out.trans e5h.out).chg c6h.out fun k hk => hk.elim (fun h => by omega) fun h => absurd h.1 id⟩
    have := hoh.out
    rw [List.nil_append, ← hbF.out] at this
    rw [hbF.out] at this ⊢
    exact this.mono fun k hk => by
      have := hk.2
      omega
end Go.Proofs.YtmdepmohfnficaaDoor


namespace Go.Proofs.YtmdepmohfnficaaDoor
set_option linter.unusedVariables false
set_option linter.unusedSimpArgs false
open Go.RowKit Rk Tr

namespace Tr
def inL (l : List (List UInt8)) (n : List UInt8) : Bool := l.any fun y => seq n y
theorem inL_iff {l : List (List UInt8)} {n : List UInt8} : inL l n = true ↔ n ∈ l := by
  unfold inL
  rw [List.any_eq_true]
  exact ⟨fun ⟨x, h1, h2⟩ => by rw [seq_true.1 h2]; exact h1, fun h => ⟨n, h, seq_true.2 rfl⟩⟩
theorem inL_contains (l : List (List UInt8)) (n : List UInt8) : inL l n = l.contains n := by
  rw [Bool.eq_iff_iff, inL_iff, List.contains_iff_mem]
end Tr
theorem indexStr_any (v : Value) (l : List (List UInt8)) (n : List UInt8) (w : World) (h : Sl sv w v l) :
    Calls Tryd.prog 88 #[v, .string (str n)] w fun e w' => (∃ z : Int, e = .returned (.int .i64 z) ∧ decide (0 ≤ z) = inL l n) ∧ Ext w w' := by
  obtain ⟨a, cap, rfl, hA⟩ := h
  have hlen := hA.len
  have hgh := Lib.hid hA.cells
  have e0 := Ext.refl w
  clear hA
  go_enter Tryd.func88, Tryd.ntmps88
  go_wp2
  go_loopw [8] (fun i wr => ∃ k : Nat, k ≤ l.length ∧ i = .int .i64 (k : Int) ∧ RowKit.Hid (∀ j x, j < k → l[j]? = some x → seq n x = false) ∧ Ext w wr) (fun i _ => l.length - (intOf i).toNat)
  case atStart => exact ⟨0, Nat.zero_le _, rfl, Lib.hid fun j x hj => by omega, e0⟩
  case round =>
    obtain ⟨k, hk, rfl, hno, ek⟩ := hrel
    clear e0
    by_cases hlt : k < l.length
    · obtain ⟨x, hx⟩ := some_at hlt
      obtain ⟨g, o, rfl, c1⟩ := hgh.out k x hx
      have hki : (k : Int) < (l.length : Int) := by omega
      have hw : IntKind.i64.wrap ((k : Int) + 1) = (k : Int) + 1 := by rw [IntKind.wrap_i64]; omega
      have d1 := ek.cell c1
      have hit : RowKit.Hid (seq n x = true → inL l n = true) := Lib.hid fun h => inL_iff.2 (by rw [seq_true.1 h]; exact List.mem_of_getElem? hx)
      have hnx := Lib.hid (fun h => (fun j y hj hy => if e : j = k then by subst e; rw [hx] at hy; cases hy; exact h else hno.out j y (by omega) hy) : seq n x = false → ∀ j y, j < k + 1 → l[j]? = some y → seq n y = false)
      unfold sv at d1
      clear c1 hx hno
      cases hs : seq n x
      · have hnx2 := Lib.hid (hnx.out hs)
        clear hnx hit
        go_wp2
        go_roundw
        case rel => exact ⟨k + 1, by omega, by go_num, Lib.hid hnx2.out, ek⟩
        case measure => simp [intOf]; omega
      · have hit2 := Lib.hid (hit.out hs)
        clear hnx hit
        go_wp2
        go_ret
        exact ⟨⟨_, rfl, by rw [hit2.out]; simp⟩, ek⟩
    · obtain rfl : k = l.length := by omega
      have hm : RowKit.Hid (inL l n = false) := Lib.hid (by
        unfold inL
        rw [List.any_eq_false]
        intro x hx
        obtain ⟨j, hj⟩ := List.getElem?_of_mem hx
        rw [hno.out j x (List.getElem?_eq_some_iff.1 hj).1 hj]; simp)
      clear hno
      go_wp2
      go_ret
      exact ⟨⟨_, rfl, by rw [hm.out]; rfl⟩, ek⟩
theorem contains_any (v : Value) (l : List (List UInt8)) (n : List UInt8) (w : World) (h : Sl sv w v l) :
    Calls Tryd.prog 71 #[v, .string (str n)] w fun e w' => e = .returned (.bool (inL l n)) ∧ Ext w w' := by
  have hi := indexStr_any v l n w h
  go_enter Tryd.func71, Tryd.ntmps71
  go_wp2_with (go_at_call 88; refine hi.mono ?_; rintro e w' ⟨⟨z, rfl, hz⟩, e1⟩)
  go_ret
  exact ⟨by first | rfl | rw [hz], e1⟩
theorem setCells_row2 (g : Nat) (E : TypeId) (fr : Nat × Nat) : ∀ (vs : List Value) (o : Nat) (w : World) (cur : Array Value), w.heap[g]? = some (.cells cur E fr) → o + vs.length ≤ cur.size →
    ∃ cur', (w.setCells g o vs).heap[g]? = some (.cells cur' E fr) ∧ cur'.size = cur.size
  | vs, o, w, cur, h, hl => by
    obtain ⟨c, h1, h2, -⟩ := setCells_row g E fr vs o w cur h hl
    exact ⟨c, h1, h2⟩
/-- 'clear(s)' on a slice of elements of many cells -/
theorem run_clear_cells {P : Program} (w : World) (t e ty : TypeId) (z : Value) (ht : P.underlying t = some (.slice e)) (hv : ∀ w, (zeroValue e).run P w = .ok z w) (h1 : ∀ u ∈ z.cells, u.oneCell' = true) (hz0 : 0 < z.cells.size) (b o n c : Nat) (hn : 0 < n)
    (hth : w.there b o (n * z.cells.size)) :
    (Builtin.clear_ #[t] ty #[.slice (some ⟨b, o, none⟩) n c]).run P w = .ok (.tuple #[]) (w.setCells b o (Builtin.zeroCells z.cells n).toList) := by
  have hl : (Builtin.zeroCells z.cells n).toList.length = n * z.cells.size := by simp [Builtin.zeroCells]
  have hst := run_storeCells_cells (P := P) b o (Builtin.zeroCells z.cells n).toList 0 w (fun j hj => by simpa using (hth j (by rw [hl] at hj; exact hj)).1) (fun j hj => by simpa using (hth j (by rw [hl] at hj; exact hj)).2) (by
    intro u hu
    simp only [Builtin.zeroCells, Array.toList_map, List.mem_map] at hu
    obtain ⟨i, -, rfl⟩ := hu
    have hi : i % z.cells.size < z.cells.size := Nat.mod_lt _ hz0
    rw [getElem!_pos z.cells _ hi]
    exact h1 _ (Array.getElem_mem hi))
  simp only [Nat.add_zero] at hst
  obtain ⟨m, rfl⟩ : ∃ m, n = m + 1 := ⟨n - 1, by omega⟩
  simp [Builtin.clear_, run_underlying ht, hv, hst]
attribute [local irreducible] rcells
theorem drop1_any (r : Rec) (gv : Value) (gone : List (List UInt8)) (B : Nat) (w : World) (hB : w.cell? ⟨B, 0, none⟩ = some gv) (hg : Sl sv w gv gone) :
    Calls Tryd.prog 70 #[.agg (rcells r), .pointer (some ⟨B, 0, none⟩)] w fun e w' => e = .returned (.bool (inL gone r.name)) ∧ Ext w w' := by
  have e1 := (Ext.refl w).alloc (.cells (rcells r) 36)
  have c1 := (cell_of_row (w.alloc (.cells (rcells r) 36)) w.heap.size 1 _ _ _ (heap_alloc_new w _)).trans (rc_cells r).2.1
  have cB := e1.cell hB
  have hc := contains_any gv gone r.name _ (hg.ext e1)
  obtain ⟨a, cap, rfl, -⟩ := hg
  clear hB
  go_enter Tryd.func70, Tryd.ntmps70
  go_wp2_with (go_at_call 71; refine hc.mono ?_; rintro e w' ⟨rfl, e2⟩)
  go_ret
  exact ⟨rfl, e1.trans e2⟩
end Go.Proofs.YtmdepmohfnficaaDoor


namespace Go.Proofs.YtmdepmohfnficaaDoor
set_option linter.unusedVariables false
set_option linter.unusedSimpArgs false
open Go.RowKit Rk Tr

namespace Tr
theorem idx_cases (p : Rec → Bool) (l : List Rec) : (idx p l = -1 ∧ l.filter (fun r => !p r) = l) ∨ ∃ (i : Nat) (x : Rec), idx p l = (i : Int) ∧ l[i]? = some x ∧ p x = true ∧ (l.take (i + 1)).filter (fun r => !p r) = l.take i := by
  unfold idx
  cases h : l.findIdx? p with
  | none =>
    refine .inl ⟨rfl, List.filter_eq_self.2 fun x hx => ?_⟩
    rw [List.findIdx?_eq_none_iff] at h
    rw [h x hx]; rfl
  | some i =>
    obtain ⟨h1, h2, h3⟩ := List.findIdx?_eq_some_iff_getElem.1 h
    refine .inr ⟨i, l[i], rfl, List.getElem?_eq_getElem h1, h2, ?_⟩
    rw [List.take_add_one, List.getElem?_eq_getElem h1, List.filter_append]
    have : (l.take i).filter (fun r => !p r) = l.take i := List.filter_eq_self.2 fun x hx => by
      obtain ⟨j, hj⟩ := List.getElem?_of_mem hx
      have hji := (List.getElem?_eq_some_iff.1 hj).1
      rw [List.length_take] at hji
      rw [List.getElem?_take, if_pos (by omega)] at hj
      obtain ⟨hj1, rfl⟩ := List.getElem?_eq_some_iff.1 hj
      have := h3 j (by omega)
      simpa using this
    rw [this]; simp [h2]
end Tr
attribute [local irreducible] rcells
set_option maxHeartbeats 1000000 in
theorem indexDrop_any (v : Value) (l : List Rec) (p : Rec → Bool) (B : Nat) (w : World) (h : Recs w v l) (hP : ∀ W r, Ext w W → Calls Tryd.prog 70 #[.agg (rcells r), .pointer (some ⟨B, 0, none⟩)] W fun e w' => e = .returned (.bool (p r)) ∧ Ext W w') :
    Calls Tryd.prog 85 #[v, .func (.func 70) #[] #[.pointer (some ⟨B, 0, none⟩)]] w fun e w' => e = .returned (.int .i64 (idx p l)) ∧ Ext w w' := by
  obtain ⟨a, cap, rfl, hlen, hget⟩ := Rw.shape h
  have hgh := Lib.hid hget
  clear hget h
  have e0 := Ext.refl w
  go_enter Tryd.func85, Tryd.ntmps85
  go_wp2
  go_loopw [8] (fun i wr => ∃ k : Nat, k ≤ l.length ∧ i = .int .i64 (k : Int) ∧ RowKit.Hid (∀ j x, j < k → l[j]? = some x → p x = false) ∧ Ext w wr) (fun i _ => l.length - (intOf i).toNat)
  case atStart => exact ⟨0, Nat.zero_le _, rfl, Lib.hid fun j x hj => by omega, e0⟩
  case round =>
    obtain ⟨k, hk, rfl, hno, ek⟩ := hrel
    clear e0
    by_cases hlt : k < l.length
    · obtain ⟨x, hx⟩ := some_at hlt
      obtain ⟨g, o, cs, rfl, hr, rfl, hf⟩ := hgh.out k x hx
      have hki : (k : Int) < (l.length : Int) := by omega
      have hw : IntKind.i64.wrap ((k : Int) + 1) = (k : Int) + 1 := by rw [IntKind.wrap_i64]; omega
      have hr2 : wr.rangeAt g (o + k * 10) (prow x) := fun i u hu => ek.cell (hr i u hu)
      have hat := hP wr x ek
      have hit := Lib.hid (fun h => idx_hit hno.out hx h : p x = true → idx p l = (k : Int))
      have hnx := Lib.hid (fun h => (fun j y hj hy => if e : j = k then by subst e; rw [hx] at hy; cases hy; exact h else hno.out j y (by omega) hy) : p x = false → ∀ j y, j < k + 1 → l[j]? = some y → p y = false)
      clear hr hx hf hno
      cases hs : p x
      · rw [hs] at hat
        have hnx2 := Lib.hid (hnx.out hs)
        clear hnx hit
        go_wp2_with (first
          | (refine wpList_load_rec (by rfl) _ rfl g (o + k * 10) rfl x hr2 ?_)
          | (go_at_call 70; refine hat.mono ?_; rintro e w2 ⟨rfl, e2⟩))
        go_roundw
        case rel => exact ⟨k + 1, by omega, by go_num, Lib.hid hnx2.out, ek.trans e2⟩
        case measure => simp [intOf]; omega
      · rw [hs] at hat
        have hit2 := Lib.hid (hit.out hs)
        clear hnx hit
        go_wp2_with (first
          | (refine wpList_load_rec (by rfl) _ rfl g (o + k * 10) rfl x hr2 ?_)
          | (go_at_call 70; refine hat.mono ?_; rintro e w2 ⟨rfl, e2⟩))
        go_ret
        exact ⟨by rw [hit2.out]; rfl, ek.trans e2⟩
    · obtain rfl : k = l.length := by omega
      have hm := Lib.hid (idx_miss hno.out)
      go_wp2
      go_ret
      exact ⟨by rw [hm.out]; rfl, ek⟩
end Go.Proofs.YtmdepmohfnficaaDoor


namespace Go.Proofs.YtmdepmohfnficaaDoor
set_option linter.unusedVariables false
set_option linter.unusedSimpArgs false
open Go.RowKit Rk Tr

/-- rows 0 to c are those that stay of the first j, rows from j on are as they were -/
structure DelSt (w : World) (g cap : Nat) (l : List Rec) (p : Rec → Bool) (j : Nat) : Prop where
  blk : ∃ cur, w.heap[g]? = some (.cells cur 36 (0, 0)) ∧ cur.size = cap * 10
  front : ∀ q x, ((l.take j).filter fun r => !p r)[q]? = some x → w.rangeAt g (q * 10) (prow x)
  back : ∀ q x, j ≤ q → l[q]? = some x → w.rangeAt g (q * 10) (prow x)
theorem DelSt.ext {w w' : World} {g cap : Nat} {l : List Rec} {p : Rec → Bool} {j : Nat} (h : DelSt w g cap l p j) (e : Ext w w') : DelSt w' g cap l p j :=
  ⟨let ⟨c, h1, h2⟩ := h.blk; ⟨c, e.heap h1, h2⟩, fun q x hq i u hu => e.cell (h.front q x hq i u hu), fun q x hj hq i u hu => e.cell (h.back q x hj hq i u hu)⟩
theorem keep_in {l : List Rec} {p : Rec → Bool} {j : Nat} {x : Rec} (hx : l[j]? = some x) (hp : p x = true) : (l.take (j + 1)).filter (fun r => !p r) = (l.take j).filter fun r => !p r := by
  rw [List.take_add_one, hx, List.filter_append]; simp [hp]
theorem keep_out {l : List Rec} {p : Rec → Bool} {j : Nat} {x : Rec} (hx : l[j]? = some x) (hp : p x = false) : (l.take (j + 1)).filter (fun r => !p r) = ((l.take j).filter fun r => !p r) ++ [x] := by
  rw [List.take_add_one, hx, List.filter_append]; simp [hp]
theorem DelSt.skip {w : World} {g cap : Nat} {l : List Rec} {p : Rec → Bool} {j : Nat} (h : DelSt w g cap l p j) {x : Rec} (hx : l[j]? = some x) (hp : p x = true) : DelSt w g cap l p (j + 1) :=
  ⟨h.blk, fun q y hq => h.front q y (by rwa [keep_in hx hp] at hq), fun q y hj hq => h.back q y (by omega) hq⟩
theorem there_row {w : World} {g : Nat} {cur : Array Value} {E : TypeId} (h : w.heap[g]? = some (.cells cur E (0, 0))) {o n : Nat} (hn : o + n ≤ cur.size) : w.there g o n := fun j hj => by
  refine ⟨?_, frozen_of_row w g (o + j) cur _ h⟩
  rw [cell_of_row w g (o + j) cur _ _ h, Array.getElem?_eq_getElem (by omega)]; rfl
theorem filt_le (l : List Rec) (p : Rec → Bool) (j : Nat) : ((l.take j).filter fun r => !p r).length ≤ j := by
  refine Nat.le_trans (List.length_filter_le _ _) ?_
  rw [List.length_take]; omega
theorem DelSt.put {w : World} {g cap : Nat} {l : List Rec} {p : Rec → Bool} {j : Nat} (h : DelSt w g cap l p j) {x : Rec} (hx : l[j]? = some x) (hp : p x = false) (hc : l.length ≤ cap) :
    DelSt (w.setCells g (((l.take j).filter fun r => !p r).length * 10) (prow x)) g cap l p (j + 1) := by
  have hcj := filt_le l p j
  have hjl := (List.getElem?_eq_some_iff.1 hx).1
  obtain ⟨cur, h1, h2⟩ := h.blk
  have hfit : ((l.take j).filter fun r => !p r).length * 10 + (prow x).length ≤ cur.size := by rw [prow_len, h2]; omega
  refine ⟨?_, fun q y hq => ?_, fun q y hj hq => ?_⟩
  · obtain ⟨c, k1, k2⟩ := setCells_row2 g _ _ (prow x) _ w cur h1 hfit
    exact ⟨c, k1, by rw [k2, h2]⟩
  · rw [keep_out hx hp] at hq
    by_cases e : q < ((l.take j).filter fun r => !p r).length
    · rw [List.getElem?_append_left e] at hq
      exact World.rangeAt_setCells_apart (h.front q y hq) _ _ _ (.inr (.inl (by rw [prow_len]; omega)))
    · rw [List.getElem?_append_right (by omega)] at hq
      have hq0 := (List.getElem?_eq_some_iff.1 hq).1
      rw [List.length_singleton] at hq0
      obtain rfl : q = ((l.take j).filter fun r => !p r).length := by omega
      rw [Nat.sub_self, List.getElem?_cons_zero] at hq
      cases hq
      exact World.rangeAt_setCells_same w g _ _ (there_row h1 hfit)
  · exact World.rangeAt_setCells_apart (h.back q y (by omega) hq) _ _ _ (.inr (.inr (by rw [prow_len]; omega)))
theorem rows_flat {w : World} {g : Nat} {cur : Array Value} {E : TypeId} {fr : Nat × Nat} (h : w.heap[g]? = some (.cells cur E fr)) {L : List Rec} (hs : L.length * 10 ≤ cur.size) (hr : ∀ q x, L[q]? = some x → w.rangeAt g (q * 10) (prow x)) : cur.toList.take (L.length * 10) = L.flatMap prow := by
  apply List.ext_getElem?
  intro j
  by_cases hj : j < L.length * 10
  · obtain ⟨x, hx⟩ := some_at (l := L) (show j / 10 < L.length by omega)
    obtain ⟨u, hu⟩ := some_at (l := prow x) (show j % 10 < (prow x).length by rw [prow_len]; omega)
    have h1 := hr _ x hx _ u hu
    rw [cell_of_row w g _ cur _ _ h, show j / 10 * 10 + j % 10 = j by omega] at h1
    have h2 := flat_get prow_len L (j / 10) (j % 10) x u hx hu
    rw [show j / 10 * 10 + j % 10 = j by omega] at h2
    rw [List.getElem?_take, if_pos hj, Array.getElem?_toList, h1, h2]
  · rw [List.getElem?_take, if_neg hj, List.getElem?_eq_none (by rw [flat_len prow_len]; omega)]
theorem DelSt.start {w : World} {F : Nat → Prop} {g cap : Nat} {l : List Rec} (h : OwnR w F (.slice (some ⟨g, 0, none⟩) l.length cap) l) {p : Rec → Bool} {i : Nat} (hf : (l.take (i + 1)).filter (fun r => !p r) = l.take i) : l.length ≤ cap ∧ cap ≤ maxLen ∧ F g ∧ DelSt w g cap l p (i + 1) := by
  have hrec := h.recs
  obtain ⟨⟨⟨h1, h'⟩, h2⟩, hfit⟩ := h
  rcases h' with ⟨hv, hn⟩ | ⟨g', cap', cur, hv, hb, hh, hn, hm, hs, ht⟩
  · cases hv
  · cases hv
    have hrow : ∀ q x, l[q]? = some x → w.rangeAt g (q * 10) (prow x) := fun q x hq i u hu => by
      have hi := (List.getElem?_eq_some_iff.1 hu).1
      rw [prow_len] at hi
      have hjl := (List.getElem?_eq_some_iff.1 hq).1
      have := flat_get prow_len l q i x u hq hu
      rw [← ht, List.getElem?_take, if_pos (by omega)] at this
      rw [cell_of_row w g _ cur _ _ hh, ← Array.getElem?_toList]
      exact this
    refine ⟨hn, hm, h2 g rfl, ⟨cur, hh, hs⟩, fun q x hq => ?_, fun q x _ hq => hrow q x hq⟩
    rw [hf, List.getElem?_take] at hq
    split at hq
    · exact hrow q x hq
    · cases hq
/-- behind clear -/
theorem DelSt.done {w : World} {F : Nat → Prop} {g cap : Nat} {l : List Rec} {p : Rec → Bool} (h : DelSt w g cap l p l.length) (hfit : ∀ x ∈ l, Fits x) (hF : F g) (hc : l.length ≤ cap) (hm : cap ≤ maxLen) (zs : List Value) (hz : zs.length = (l.length - (l.filter fun r => !p r).length) * 10) :
    OwnR (w.setCells g ((l.filter fun r => !p r).length * 10) zs) F (.slice (some ⟨g, 0, none⟩) (l.filter fun r => !p r).length cap) (l.filter fun r => !p r) := by
  have hle := List.length_filter_le (fun r => !p r) l
  obtain ⟨cur, h1, h2⟩ := h.blk
  have hfr := h.front
  rw [List.take_length] at hfr
  obtain ⟨c, k1, k2⟩ := setCells_row2 g _ _ zs ((l.filter fun r => !p r).length * 10) w cur h1 (by rw [hz, h2]; omega)
  refine ⟨⟨⟨by rw [flat_len prow_len], .inr ⟨g, cap, c, rfl, Nat.zero_le _, k1, by omega, hm, by rw [k2, h2], ?_⟩⟩, fun k hk => by simp [Value.ownBlock] at hk; subst hk; exact hF⟩, fun x hx => hfit x (List.mem_filter.1 hx).1⟩
  refine rows_flat k1 (by rw [k2, h2]; omega) fun q x hq => ?_
  have hql := (List.getElem?_eq_some_iff.1 hq).1
  exact World.rangeAt_setCells_apart (hfr q x hq) _ _ _ (.inr (.inl (by rw [prow_len]; omega)))
end Go.Proofs.YtmdepmohfnficaaDoor


namespace Go.Proofs.YtmdepmohfnficaaDoor
set_option linter.unusedVariables false
set_option linter.unusedSimpArgs false
open Go.RowKit Rk Tr

theorem zero_rec (W : World) : (zeroValue 36).run Tryd.prog W = .ok (.agg zcells) W := by
  have h := info_recZ
  cases hi : Tryd.prog.info? 36 with
  | none => rw [hi] at h; cases h
  | some i =>
    rw [hi] at h
    simp only [Option.map_some, Option.some.injEq, Prod.mk.injEq] at h
    simp [zeroValue, typeInfo, hi, h.1]
theorem zc_cells : (Value.agg zcells).cells = zcells := rfl
theorem zc_ten : zcells.size = 10 := rfl
theorem zc_each : ∀ u ∈ zcells, u.oneCell' = true := fun u hu => Array.all_eq_true_iff_forall_mem.1 zcells_one u hu
attribute [local irreducible] rcells
set_option maxRecDepth 20000 in
set_option maxHeartbeats 2000000 in
theorem deleteFunc_any {F : Nat → Prop} {g cap B : Nat} {l : List Rec} {p : Rec → Bool} {w : World} (hown : OwnR w F (.slice (some ⟨g, 0, none⟩) l.length cap) l) (hl : l.length ≤ 1000)
    (hP : ∀ W r, Chg (fun k => k = g) w W → Calls Tryd.prog 70 #[.agg (rcells r), .pointer (some ⟨B, 0, none⟩)] W fun e w' => e = .returned (.bool (p r)) ∧ Ext W w') :
    Calls Tryd.prog 69 #[.slice (some ⟨g, 0, none⟩) l.length cap, .func (.func 70) #[] #[.pointer (some ⟨B, 0, none⟩)]] w (Ret fun u w' => OwnR w' F u (l.filter fun r => !p r) ∧ (∃ a c, u = .slice a (l.filter fun r => !p r).length c) ∧ Chg (fun k => k = g) w w') := by
  have hi := indexDrop_any _ l p B w hown.recs fun W r e => hP W r (Chg.of_ext e)
  have hoh := Lib.hid hown
  rcases idx_cases p l with ⟨h1, h2⟩ | ⟨i, x0, h1, hx0, hp0, hf⟩
  · rw [h1] at hi
    have hf2 := Lib.hid h2
    clear h1 h2 hown
    go_enter Tryd.func69, Tryd.ntmps69
    go_wp2_with (go_at_call 85; refine hi.mono ?_; rintro e w2 ⟨rfl, e2⟩)
    go_ret
    exact Ret.mk ⟨by rw [hf2.out]; exact hoh.out.ext e2, ⟨_, _, by rw [hf2.out]; rfl⟩, Chg.of_ext e2⟩
  · rw [h1] at hi
    obtain ⟨hnc, hcm, hFg, hst⟩ := DelSt.start hown hf
    have hil := (List.getElem?_eq_some_iff.1 hx0).1
    have hii : (i : Int) < (l.length : Int) := by omega
    have hwi : IntKind.i64.wrap ((i : Int) + 1) = (i : Int) + 1 := by rw [IntKind.wrap_i64]; omega
    have hi1 : (((i : Int) == -1) = false) := by rw [beq_eq_false_iff_ne]; omega
    have hlI : (l.length : Int) ≤ 1000 := by omega
    have hlc : (l.length : Int) ≤ (cap : Int) := by omega
    have hmost : RowKit.Hid (∀ j, i < j → ((l.take j).filter fun r => !p r).length < j) := Lib.hid fun j hj => by
      have h3 : l.take j = l.take (i + 1) ++ (l.take j).drop (i + 1) := by
        conv => lhs; rw [← List.take_append_drop (i + 1) (l.take j)]
        rw [List.take_take, Nat.min_eq_left (by omega)]
      rw [h3, List.filter_append, List.length_append, hf]
      have h4 := List.length_filter_le (fun r => !p r) ((l.take j).drop (i + 1))
      rw [List.length_drop, List.length_take] at h4
      rw [List.length_take]
      omega
    have hf0 : RowKit.Hid (((l.take (i + 1)).filter fun r => !p r).length = i) := Lib.hid (by rw [hf, List.length_take]; omega)
    clear h1 hown
    go_enter Tryd.func69, Tryd.ntmps69
    go_wp2_with (go_at_call 85; refine hi.mono ?_; rintro e w2 ⟨rfl, e2⟩)
    have hst2 := Lib.hid (hst.ext e2)
    have hc2 : Chg (fun k => k = g) w w2 := Chg.of_ext e2
    have hfith := Lib.hid hoh.out.2
    clear hst e2 hi1 hwi
    go_loopw [5, 6] (fun ci jv wr => ∃ (j c : Nat), i < j ∧ j ≤ l.length ∧ jv = .int .i64 (j : Int) ∧ ci = .int .i64 (c : Int) ∧ RowKit.Hid (((l.take j).filter fun r => !p r).length = c) ∧ RowKit.Hid (DelSt wr g cap l p j) ∧ RowKit.Hid (Chg (fun k => k = g) w wr)) (fun _ jv _ => l.length - (intOf jv).toNat)
    case atStart => exact ⟨i + 1, i, by omega, by omega, by go_num, rfl, hf0, hst2, Lib.hid hc2⟩
    case round =>
      obtain ⟨j, c, hij, hjl, rfl, rfl, hcc, hd, hch⟩ := hrel
      clear hst2 hc2
      have hcj : c < j := by have := hmost.out j hij; rw [hcc.out] at this; exact this
      by_cases hlt : j < l.length
      · obtain ⟨x, hx⟩ := some_at hlt
        have hji : (j : Int) < (l.length : Int) := by omega
        have hwj : IntKind.i64.wrap ((j : Int) + 1) = (j : Int) + 1 := by rw [IntKind.wrap_i64]; omega
        have hr2 : wr.rangeAt g (0 + j * 10) (prow x) := by rw [Nat.zero_add]; exact hd.out.back j x (Nat.le_refl _) hx
        have hr3 : wr.rangeAt g (j * 10) (prow x) := hd.out.back j x (Nat.le_refl _) hx
        go_upto_region 8 with (first
          | (refine wpList_load_rec (by rfl) _ rfl g (j * 10) rfl x hr3 ?_)
          | (refine wpList_store_new wr rfl 36 _ _ rfl (rcells x) _ rfl rfl rfl 10 info_rec (rc_ten x) rfl (rc_one x) ?_))
        go_frame
        have hg := heap_alloc_new wr (.cells (rcells x) 36)
        have e1 := (Ext.refl wr).alloc (.cells (rcells x) 36)
        have hd1 := Lib.hid (hd.out.ext e1)
        have hch1 := Lib.hid (hch.out.ext e1)
        generalize wr.alloc (.cells (rcells x) 36) = W1 at *
        generalize wr.heap.size = B1 at *
        have hcall := hP W1 x hch1.out
        have hgh := Lib.hid hg
        have hxh := Lib.hid hx
        clear hg hd hch e1 hr2 hr3 hx
        cases hp : p x
        · rw [hp] at hcall
          have hko := Lib.hid (keep_out hxh.out hp)
          have hc0 : (c : Int) < (l.length : Int) := by omega
          have hwc : IntKind.i64.wrap ((c : Int) + 1) = (c : Int) + 1 := by rw [IntKind.wrap_i64]; omega
          go_upto_region 9 with (first
            | (refine wpList_load_row rfl 36 _ rfl B1 rfl 36 (rcells x) (0, 0) _ hgh.out Tryd.underlying36 rfl (rc_sz x) ?_)
            | (go_at_call 70; refine hcall.mono ?_; rintro e W2 ⟨rfl, e2⟩))
          have hg2 := Lib.hid (e2.heap hgh.out)
          have hd2 := Lib.hid (hd1.out.ext e2)
          have hch2 := Lib.hid (hch1.out.ext e2)
          have hth : W2.there g (c * 10) (rcells x).size := by
            obtain ⟨cur, k1, k2⟩ := hd2.out.blk
            exact there_row k1 (by rw [rc_ten, k2]; omega)
          clear e2
          go_upto_region 10 with (first
            | (refine wpList_load_row rfl 36 _ rfl B1 rfl 36 (rcells x) (0, 0) _ hg2.out Tryd.underlying36 rfl (rc_sz x) ?_)
            | (refine wpList_store_mid rfl 36 _ _ rfl g (c * 10) (rcells x) rfl rfl hth (rc_sz x) (rc_one x) ?_))
          go_frame
          have hd3 := hd2.out.put hxh.out hp hnc
          rw [hcc.out] at hd3
          have hch3 : Chg (fun k => k = g) w (W2.setCells g (c * 10) (rcells x).toList) := hch2.out.trans (setCells_chg (p := fun k => k = g) g rfl _ _ _)
          have hd3 : DelSt (W2.setCells g (c * 10) (rcells x).toList) g cap l p (j + 1) := hd3
          generalize W2.setCells g (c * 10) (rcells x).toList = W3 at *
          have hd3h := Lib.hid hd3
          have hch3h := Lib.hid hch3
          clear hd3 hch3 hth
          go_wp2
          go_roundw
          case rel => exact ⟨j + 1, c + 1, by omega, by omega, by go_num, by go_num, Lib.hid (by rw [hko.out, List.length_append, hcc.out]; rfl), hd3h, hch3h⟩
          case measure => simp [intOf]; omega
        · rw [hp] at hcall
          have hki := Lib.hid (keep_in hxh.out hp)
          have hdk := Lib.hid (hd1.out.skip hxh.out hp)
          go_wp2_with (first
            | (refine wpList_load_row rfl 36 _ rfl B1 rfl 36 (rcells x) (0, 0) _ hgh.out Tryd.underlying36 rfl (rc_sz x) ?_)
            | (go_at_call 70; refine hcall.mono ?_; rintro e W2 ⟨rfl, e2⟩))
          go_roundw
          case rel => exact ⟨j + 1, c, by omega, by omega, by go_num, rfl, Lib.hid (by rw [hki.out, hcc.out]), Lib.hid (hdk.out.ext e2), Lib.hid (hch1.out.ext e2)⟩
          case measure => simp [intOf]; omega
      · obtain rfl : j = l.length := by omega
        have hcl : (c : Int) < (l.length : Int) := by omega
        have hcl2 : (c : Int) < (cap : Int) := by omega
        have hcl3 : (c : Int) ≤ (cap : Int) := by omega
        have hcl4 : (c : Int) ≤ (l.length : Int) := by omega
        have hcl5 : ¬ cap = c := by omega
        have hthz : wr.there g (c * 10) ((l.length - c) * (Value.agg zcells).cells.size) := by
          obtain ⟨cur, k1, k2⟩ := hd.out.blk
          exact there_row k1 (by rw [zc_cells, zc_ten, k2]; omega)
        have hclr : ∀ ty, (Builtin.clear_ #[22] ty #[.slice (some ⟨g, c * 10, none⟩) (l.length - c) (cap - c)]).run Tryd.prog wr = .ok (.tuple #[]) (wr.setCells g (c * 10) (Builtin.zeroCells zcells (l.length - c)).toList) := fun ty =>
          run_clear_cells wr 22 36 ty (.agg zcells) Tryd.underlying22 zero_rec zc_each (by rw [zc_cells, zc_ten]; omega) g (c * 10) (l.length - c) (cap - c) (by omega) hthz
        have hcc2 := hcc.out
        rw [List.take_length] at hcc2
        have hdn := Lib.hid (hd.out.done hfith.out hFg hnc hcm (Builtin.zeroCells zcells (l.length - c)).toList (by rw [hcc2]; simp [Builtin.zeroCells, zc_ten]))
        rw [hcc2] at hdn
        have hccg := Lib.hid (hch.out.trans (setCells_chg (p := fun k => k = g) g rfl (Builtin.zeroCells zcells (l.length - c)).toList (c * 10) wr))
        have hc2h := Lib.hid hcc2
        clear hthz hcc hd hch hcc2 hmost hf0
        generalize (Builtin.zeroCells zcells (l.length - c)).toList = Z at *
        go_wp2
        go_ret
        exact Ret.mk ⟨hdn.out, ⟨_, _, by rw [hc2h.out]; rfl⟩, hccg.out⟩
theorem deleteFunc_all {F : Nat → Prop} {B : Nat} {v : Value} {l : List Rec} {p : Rec → Bool} {w : World} (hown : OwnR w F v l) (hl : l.length ≤ 1000)
    (hP : ∀ W r, Chg F w W → Calls Tryd.prog 70 #[.agg (rcells r), .pointer (some ⟨B, 0, none⟩)] W fun e w' => e = .returned (.bool (p r)) ∧ Ext W w') :
    Calls Tryd.prog 69 #[v, .func (.func 70) #[] #[.pointer (some ⟨B, 0, none⟩)]] w (Ret fun u w' => OwnR w' F u (l.filter fun r => !p r) ∧ (∃ a c, u = .slice a (l.filter fun r => !p r).length c) ∧ Chg F w w') := by
  have hid := hown
  obtain ⟨⟨⟨-, h⟩, h2⟩, hf⟩ := hown
  rcases h with ⟨rfl, hn⟩ | ⟨g, cap, cur, rfl, hb, hh, hn, hm, hs, ht⟩
  · obtain rfl := List.eq_nil_of_length_eq_zero hn
    have hi := indexDrop_any _ [] p B w (Recs.nil w) fun W r e => hP W r (Chg.of_ext e)
    have hi2 : idx p [] = -1 := rfl
    rw [hi2] at hi
    go_enter Tryd.func69, Tryd.ntmps69
    go_wp2_with (go_at_call 85; refine hi.mono ?_; rintro e w2 ⟨rfl, e2⟩)
    go_ret
    exact Ret.mk ⟨OwnR.nil _ _, ⟨_, _, rfl⟩, Chg.of_ext e2⟩
  · have hFg := h2 g rfl
    refine (deleteFunc_any hid hl fun W r c => hP W r (c.mono fun k hk => by rw [hk]; exact hFg)).mono ?_
    rintro e w' ⟨u, rfl, k1, k2, k3⟩
    exact Ret.mk ⟨k1, k2, k3.mono fun k hk => by rw [hk]; exact hFg⟩
end Go.Proofs.YtmdepmohfnficaaDoor


namespace Go.Proofs.YtmdepmohfnficaaDoor
set_option linter.unusedVariables false
set_option linter.unusedSimpArgs false
open Go.RowKit Rk Tr

theorem OwnO.chgB {α : Type} {enc : α → Value} {E : TypeId} {w w' : World} {F G : Nat → Prop} {v : Value} {l : List α} (h : OwnO enc E w F v l) (c : Chg G w w') (hG : ∀ k, F k → k < w.heap.size → ¬ G k) : OwnO enc E w' F v l := by
  rcases h with h | ⟨g, o, cap, cur, h1, h2, hh, r⟩
  · exact .inl h
  · have hg := (Array.getElem?_eq_some_iff.1 hh).1
    exact .inr ⟨g, o, cap, cur, h1, h2, by rw [c.block g hg (hG g h2 hg)]; exact hh, r⟩
attribute [local irreducible] rcells
set_option maxRecDepth 20000 in
set_option maxHeartbeats 2000000 in
theorem drop_any {F : Nat → Prop} {p room : Nat} {l : List Rec} (n : List UInt8) {w : World} (h : TrM 96 w F p room l) (hok : Ok l) (hl : l.length ≤ 1000) (hbl : (below l n).length ≤ 1000) :
    Calls Tryd.prog 32 #[.pointer (some ⟨p, 0, none⟩), .string (str n)] w (Ret fun u w' => OwnO sv 9 w' (fun k => w.heap.size ≤ k) u (below l n) ∧ (∃ a c, u = .slice a (below l n).length c) ∧ TrM 96 w' (fun k => F k ∨ w.heap.size ≤ k) p room (Tr.drop l n) ∧ Chg F w w') := by
  have hB := below_any n h hok hl hbl
  have hth := Lib.hid h.lt
  have hd : RowKit.Hid (Tr.drop l n = l.filter fun r => !inL (below l n) r.name) := Lib.hid (by unfold Tr.drop; congr 1; funext r; rw [inL_contains])
  obtain ⟨L, hL⟩ : ∃ L, L = below l n := ⟨_, rfl⟩
  rw [← hL] at hB hd hbl ⊢
  clear h hL
  go_enter Tryd.func32, Tryd.ntmps32
  go_upto_region 2 with (go_at_call 19; refine hB.mono ?_; rintro e w1 ⟨u, rfl, hu, e1⟩; obtain ⟨a1, c1, rfl⟩ := hu.shape)
  have e2 : Ext w (w1.alloc (.cells #[.slice a1 L.length c1] 39)) := e1.alloc _
  have hB2 := heap_alloc_new w1 (.cells #[.slice a1 L.length c1] 39)
  have hs2 := alloc_size w1 (.cells #[.slice a1 L.length c1] 39)
  have hu2 := hu.lt.ext ((Ext.refl w1).alloc (.cells #[.slice a1 L.length c1] 39))
  obtain ⟨B, hBe⟩ : ∃ B, B = w1.heap.size := ⟨_, rfl⟩
  rw [← hBe] at hB2 hs2 hu2 ⊢
  have hBw : w.heap.size ≤ B := by rw [hBe]; exact e1.size
  generalize w1.alloc (.cells #[.slice a1 L.length c1] 39) = W2 at *
  clear hu e1 hBe
  obtain ⟨v, hv, hFp, hov⟩ := hth.out.ext e2
  obtain ⟨a, cap, rfl⟩ := hov.shape
  have hcl := clone_any _ l W2 hov.recs hl
  have cp := cell_at hv 1 rfl
  have hpw : p < w.heap.size := hFp.2
  have hvh := Lib.hid hv
  have huh := Lib.hid hu2
  have hBh := Lib.hid hB2
  have hs2h := Lib.hid hs2
  have e2h := Lib.hid e2
  clear hv hu2 hB2 hs2 e2 hov
  go_upto_region 3 with (first
    | (go_at_call 62; refine hcl.mono ?_; rintro e w3 ⟨v3, rfl, ho3, ⟨a3, c3, rfl⟩, e3⟩)
    | (go_at_call 69; refine (deleteFunc_all (F := fun k => W2.heap.size ≤ k) (B := B) (p := fun r => inL L r.name) ho3 hl (fun W r c => drop1_any r _ L B W (cell_at ((c.block B (by have := e3.size; have := hs2h.out; omega) (by have := hs2h.out; omega)).trans (e3.heap hBh.out)) 0 rfl) ((huh.out.ext e3).chgB c (fun k hk _ h => by have := hk.2; have := hs2h.out; omega)).sl)).mono ?_; rintro e w4 ⟨v4, rfl, ho4, ⟨a4, c4, rfl⟩, g4⟩; have hp4 := (g4.block p (by have := e3.size; have := hs2h.out; omega) (by have := hs2h.out; omega)).trans (e3.heap hvh.out); have cp4 := cell_at hp4 1 rfl; have fp4 := frozen_of_row w4 p 1 _ _ hp4))
  have hp5 := heap_setCell_same w4 p 1 _ _ (.slice a4 (l.filter fun r => !inL L r.name).length c4) hp4
  have c45 : Chg (fun k => k = p) w4 (w4.setCell ⟨p, 1, none⟩ (.slice a4 (l.filter fun r => !inL L r.name).length c4)) := (Chg.refl (fun k => k = p) w4).setCell (x := ⟨p, 1, none⟩) (fun _ => rfl) _
  generalize w4.setCell ⟨p, 1, none⟩ (.slice a4 (l.filter fun r => !inL L r.name).length c4) = W5 at *
  have hsB := hs2h.out
  have hs3 := e3.size
  have hs4 := g4.size
  have hs0 := e2h.out.size
  have cB5 := cell_at ((c45.block B (by omega) (by omega)).trans ((g4.block B (by omega) (by omega)).trans (e3.heap hBh.out))) 0 rfl
  have ho5 := Lib.hid (ho4.chg c45 fun g cur hg hF e => by omega)
  have hg5 := Lib.hid (((huh.out.ext e3).chgB g4 (fun k hk _ h => by have := hk.2; omega)).chgB c45 (fun k hk _ h => by have := hk.1; omega))
  have hch := Lib.hid ((((Chg.of_ext (e2h.out.trans e3) : Chg F w w3)).then g4 (fun i hi h => by omega)).then c45 (fun i hi h => by rw [h]; exact hFp.1))
  have hp5h := Lib.hid hp5
  clear hp5 c45 hsB hs3 hs4 hp4 cp4 fp4 ho4 g4 ho3 e3
  go_wp2
  go_ret
  refine Ret.mk ⟨hg5.out.mono fun k hk => hk.1, ⟨_, _, rfl⟩, ⟨_, hp5h.out, .inl hFp.1, ?_⟩, hch.out⟩
  rw [hd.out]
  exact ho5.out.mono fun k hk => .inr (Nat.le_trans hs0 hk)
end Go.Proofs.YtmdepmohfnficaaDoor


