/- Package tree: Get, Kids, Path. -/
import Derived.Test.YtmdepmohfnficaaDoorTrB
namespace Go.Proofs.YtmdepmohfnficaaDoor
open Go.RowKit Rk Tr

namespace Tr
def getR (l : List Rec) (n : List UInt8) : Rec := match ix l n with
  | none => zero
  | some i => l.getD i zero
def isIn (l : List Rec) (n : List UInt8) : Bool := (ix l n).isSome
theorem kids_step {l : List Rec} {k : Nat} {r : Rec} (h : l[k]? = some r) (n : List UInt8) : kids (l.take (k + 1)) n = kids (l.take k) n ++ if seq n [] = false ∧ seq r.par n = true then [r.name] else [] := by
  unfold kids
  by_cases h0 : n = []
  · subst h0
    have : seq ([] : List UInt8) [] = true := seq_true.2 rfl
    simp [this]
  · have h1 : seq n [] = false := seq_false.2 h0
    rw [if_neg h0, if_neg h0, List.take_add_one, h, List.filter_append, List.map_append]
    cases h2 : seq r.par n
    · simp [h2]
    · simp [h1, h2]
theorem kids_len (l : List Rec) (n : List UInt8) (k : Nat) : (kids (l.take k) n).length ≤ k := by
  unfold kids
  split
  · simp
  · rw [List.length_map]
    refine Nat.le_trans (List.length_filter_le _ _) ?_
    rw [List.length_take]; omega
end Tr
theorem seq_nil_str (n : List UInt8) : seq n [] = decide (n = []) := by
  by_cases h : n = []
  · rw [seq_true.2 h]; simp [h]
  · rw [seq_false.2 h]; simp [h]
theorem Own.shapeN {E : TypeId} {w : World} {base : Nat} {v : Value} {l : List (List UInt8)} (h : Own sv E w base v l) : ∃ a cap, v = .slice a l.length cap := let ⟨a, cap, h, _⟩ := h.shape; ⟨a, cap, h⟩
def slen : Value → Nat
  | .slice _ n _ => n
  | _ => 0
theorem zc_rc : zcells = rcells zero := rfl
theorem zc_size (r : Rec) : zcells.size = (rcells r).size := rfl
theorem rc_one (r : Rec) : (rcells r).all (·.oneCell') = true := rcells_one r
attribute [local irreducible] rcells
set_option maxRecDepth 20000 in
set_option maxHeartbeats 1000000 in
theorem get_any {F : Nat → Prop} {p room : Nat} {l : List Rec} (n : List UInt8) {w : World} (h : TrM 96 w F p room l) :
    Calls Tryd.prog 41 #[.pointer (some ⟨p, 0, none⟩), .string (str n)] w fun e w' => e = .returned (.tuple #[.agg (rcells (getR l n)), .bool (isIn l n)]) ∧ Ext w w' := by
  have e1 := (Ext.refl w).alloc (.cells zcells 36)
  have hz := heap_alloc_new w (.cells zcells 36)
  have hat := Lib.hid (fun W (e : Ext w W) => at_any n (h.ext e))
  have hpt := Lib.hid (fun W (e : Ext w W) => (h.ext e).parts)
  rcases atI_cases l n with ⟨h1, h2⟩ | ⟨i, r, h1, h2, h3, -⟩
  · have hR := Lib.hid (show getR l n = zero ∧ isIn l n = false from by unfold getR isIn; rw [h1]; exact ⟨rfl, rfl⟩)
    rw [h2] at hat
    clear h1 h2 h hpt
    have hzh := Lib.hid hz
    have e1h := Lib.hid e1
    clear hz e1
    go_enter Tryd.func41, Tryd.ntmps41
    go_wp2_with (first
      | (go_at_call 61; refine (hat.out _ e1h.out).mono ?_; rintro e w2 ⟨rfl, e2⟩; have hz2 := Lib.hid (e2.heap hzh.out))
      | (refine wpList_store_row rfl 36 _ _ rfl w.heap.size zcells rfl rfl 36 zcells hz2.out info_rec rfl zcells_one ?_))
    refine bodyPost_ret (results_rec rfl _ _ w.heap.size zcells rfl (setRow_heap w2 w.heap.size zcells zcells _ _ hz2.out) info_rec) rfl ⟨?_, (e1h.out.trans e2).setRow (Nat.le_refl _) _⟩
    rw [hR.out.1, hR.out.2, ← zc_rc]; rfl
  · have hR := Lib.hid (show getR l n = r ∧ isIn l n = true from by unfold getR isIn; rw [h1]; exact ⟨getD_at h3, rfl⟩)
    rw [h2] at hat
    have hil : (i : Int) < (l.length : Int) := by
      have := (List.getElem?_eq_some_iff.1 h3).1
      omega
    have hzh := Lib.hid hz
    have e1h := Lib.hid e1
    have h3h := Lib.hid h3
    clear h1 h2 h hz e1 h3
    go_enter Tryd.func41, Tryd.ntmps41
    go_upto_region 3 with (first
      | (go_at_call 61; refine (hat.out _ e1h.out).mono ?_; rintro e w2 ⟨rfl, e2⟩; have hz2 := Lib.hid (e2.heap hzh.out)))
    obtain ⟨a, cap, -, c1, hr⟩ := hpt.out w2 (e1h.out.trans e2)
    obtain ⟨a', cap', hq, -, hget⟩ := Rw.shape hr
    cases hq
    obtain ⟨g, o, cs, rfl, hrr, rfl, -⟩ := hget i r h3h.out
    clear hr hget
    go_wp2_with (first
      | (refine wpList_load_rec (by rfl) _ rfl g (o + i * 10) rfl r hrr ?_)
      | (refine wpList_store_row rfl 36 _ _ rfl w.heap.size (rcells r) rfl rfl 36 zcells hz2.out (rc_sz r) (zc_size r) (rc_one r) ?_))
    refine bodyPost_ret (results_rec rfl _ _ w.heap.size (rcells r) rfl (setRow_heap w2 w.heap.size zcells (rcells r) _ _ hz2.out) (rc_sz r)) rfl ⟨?_, (e1h.out.trans e2).setRow (Nat.le_refl _) _⟩
    rw [hR.out.1, hR.out.2]; rfl
theorem wpList_store_new {P : Program} {ops : Array Oper} {rest : List Oper} {o : Oper} {a : Act} {w : World} {Q : Exit → Act → World → Prop} (W : World) (hgd : o.guard = none) (ty : TypeId) (x y : Operand) (hop : o.op = .store ty x y)
    (cells old : Array Value) (hW : w = W.alloc (.cells old ty)) (hx : a.eval x = .pointer (some ⟨W.heap.size, 0, none⟩)) (hy : a.eval y = .agg cells) (n : Nat) (hi : (P.info? ty).map (·.size) = some n) (hn : cells.size = n) (ho : old.size = n) (h1 : cells.all (·.oneCell') = true)
    (h : wpList P ops Q rest (a.put o.dst undef) (W.alloc (.cells cells ty))) : wpList P ops Q (o :: rest) a w := by
  subst hW
  have hi : (P.info? ty).map (·.size) = some cells.size := by rw [hn]; exact hi
  have hold : old.size = cells.size := ho.trans hn.symm
  refine wpList_store_row hgd ty x y hop W.heap.size cells hx hy ty old (heap_alloc_new W _) hi hold h1 ?_
  rw [show (W.alloc (.cells old ty)).setRow W.heap.size cells = W.alloc (.cells cells ty) from ?_]
  · exact h
  · simp only [World.setRow, World.alloc]
    congr 1
    apply Array.ext_getElem?
    intro i
    rw [Array.getElem?_modify]
    by_cases h : W.heap.size = i
    · subst h
      simp
    · have h' : ¬ i = W.heap.size := fun e => h e.symm
      simp [h, h', Array.getElem?_push]
theorem rc_ten (r : Rec) : (rcells r).size = 10 := (zc_size r).symm
set_option maxRecDepth 20000 in
set_option maxHeartbeats 1000000 in
theorem kids_any {F : Nat → Prop} {p room : Nat} {l : List Rec} (n : List UInt8) {w : World} (h : TrM 96 w F p room l) (hl : l.length ≤ 1000) :
    Calls Tryd.prog 42 #[.pointer (some ⟨p, 0, none⟩), .string (str n)] w (Ret fun u w' => Own sv 9 w' w.heap.size u (kids l n) ∧ Ext w w') := by
  obtain ⟨a, cap, -, c1, hr⟩ := h.parts
  have e0 := Ext.refl w
  obtain ⟨a', cap', hq, hlen, hget⟩ := Rw.shape hr
  cases hq
  have hgh := Lib.hid hget
  clear hget hr h
  go_enter Tryd.func42, Tryd.ntmps42
  go_wp2
  go_loopw [5, 13] (fun out i wr => ∃ k : Nat, k ≤ l.length ∧ i = .int .i64 (k : Int) ∧ (∃ a1 c1, out = .slice a1 (kids (l.take k) n).length c1) ∧ RowKit.Hid (Own sv 9 wr w.heap.size out (kids (l.take k) n)) ∧ Ext w wr) (fun _ i _ => l.length - (intOf i).toNat)
  case atStart => exact ⟨0, Nat.zero_le _, rfl, ⟨none, 0, by simp [kids]⟩, Lib.hid (by rw [show kids (l.take 0) n = [] by simp [kids]]; exact Own.nil _ _ _), e0⟩
  case round =>
    obtain ⟨k, hk, rfl, ⟨a1, c1', rfl⟩, ho, ek⟩ := hrel
    clear e0
    by_cases hlt : k < l.length
    · obtain ⟨x, hx⟩ := some_at hlt
      obtain ⟨g, o, cs, rfl, hrr, rfl, -⟩ := hgh.out k x hx
      have hki : (k : Int) < (l.length : Int) := by omega
      have hw : IntKind.i64.wrap ((k : Int) + 1) = (k : Int) + 1 := by rw [IntKind.wrap_i64]; omega
      have hr2 : wr.rangeAt g (o + k * 10) (prow x) := fun i u hu => ek.cell (hrr i u hu)
      have hst := Lib.hid (kids_step hx n)
      have hkl := Lib.hid (kids_len l n k)
      clear hrr hx
      go_upto_region 5 with (first
        | (refine wpList_load_rec (by rfl) _ rfl g (o + k * 10) rfl x hr2 ?_)
        | (refine wpList_store_new wr rfl 36 _ _ rfl (rcells x) _ rfl rfl rfl 10 info_rec (rc_ten x) rfl (rc_one x) ?_))
      have hg := heap_alloc_new wr (.cells (rcells x) 36)
      have k1 := cell_at hg 1 (rc_cells x).2.1
      have k2 := cell_at hg 2 (rc_cells x).2.2
      have e1 := ek.alloc (.cells (rcells x) 36)
      have ho1 := Lib.hid (ho.out.alloc (.cells (rcells x) 36))
      have hs1 := Lib.hid e1.size
      generalize wr.alloc (.cells (rcells x) 36) = W1 at *
      generalize wr.heap.size = B1 at *
      clear hg ho hr2 ek
      cases h0 : seq n []
      · cases h2 : seq x.par n
        · have hst2 := Lib.hid (hst.out.trans (by rw [h0, h2]; simp : _ = kids (l.take k) n))
          clear hst
          go_wp2
          go_roundw
          case rel => exact ⟨k + 1, by omega, by go_num, ⟨_, _, by rw [hst2.out]⟩, Lib.hid (by rw [hst2.out]; exact ho1.out), e1⟩
          case measure => simp [intOf]; omega
        · have hst2 := Lib.hid (hst.out.trans (by rw [h0, h2]; simp : _ = kids (l.take k) n ++ [x.name]))
          clear hst
          go_wp2_with (refine wpList_appendS (enc := sv) Tryd.underlying39 info_strS rfl (fun _ => rfl) rfl _ _ rfl w.heap.size _ (kids (l.take k) n) rfl (ho1.out.alloc _) _ [x.name] rfl (Sl.lit rfl rfl rfl (by decide) (by decide)) (by have := hkl.out; simp only [List.length_singleton]; omega) (by have := hkl.out; simp only [List.length_singleton]; omega) (Nat.le_trans hs1.out ((Ext.refl W1).alloc _).size) ?_; intro v3 w3 o3 g3; obtain ⟨a3, cap3, rfl⟩ := o3.shapeN)
          rw [List.length_append, List.length_singleton] at o3
          go_roundw
          case rel => exact ⟨k + 1, by omega, by go_num, ⟨a3, cap3, by rw [hst2.out, List.length_append]; rfl⟩, Lib.hid (by rw [hst2.out]; exact o3), (e1.alloc _).grown g3 (fun k hk => ho1.out.lt k hk)⟩
          case measure => simp [intOf]; omega
      · have hst2 := Lib.hid (hst.out.trans (by rw [h0]; simp : _ = kids (l.take k) n))
        clear hst
        go_wp2
        go_roundw
        case rel => exact ⟨k + 1, by omega, by go_num, ⟨_, _, by rw [hst2.out]⟩, Lib.hid (by rw [hst2.out]; exact ho1.out), e1⟩
        case measure => simp [intOf]; omega
    · obtain rfl : k = l.length := by omega
      have ho2 := ho.out
      rw [List.take_length] at ho2
      have hoh := Lib.hid ho2
      rw [List.take_length]
      clear ho2 ho
      go_wp2
      go_ret
      exact Ret.mk ⟨hoh.out, ek⟩
end Go.Proofs.YtmdepmohfnficaaDoor
