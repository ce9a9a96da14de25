/- Are changes, are pairs one; are changes of a size that is looked at. -/
import Derived.Test.YtmdepmohfnficaaDoorKpR
import Derived.Laws.StructEq
import Derived.Deep.QuietTactic
import Derived.BigQuiet
import Derived.StillTailTactics
import Derived.Deep.RegionHeld3
import Derived.Deep.DeepCutAuto
import Derived.Deep.CutBlock
namespace Go.Proofs.YtmdepmohfnficaaDoor
set_option linter.unusedVariables false
set_option linter.unusedSimpArgs false
open Go.RowKit Kv

noncomputable def eqB {α : Type} (a b : α) : Bool := @decide (a = b) (Classical.propDecidable _)
theorem eqB_true {α : Type} {a b : α} : eqB a b = true ↔ a = b := by unfold eqB; exact @decide_eq_true_iff (a = b) (Classical.propDecidable _)
theorem eqB_false {α : Type} {a b : α} : eqB a b = false ↔ a ≠ b := by
  cases h : eqB a b
  · exact ⟨fun _ e => (by rw [eqB_true.2 e] at h; cases h), fun _ => rfl⟩
  · exact ⟨fun h' => (by cases h'), fun e => absurd (eqB_true.1 h) e⟩
theorem eqB_len {α : Type} {l m : List α} (h : l.length ≠ m.length) : eqB l m = false := eqB_false.2 fun e => h (by rw [e])
theorem eqB_no {α : Type} {l m : List α} {k : Nat} {x y : α} (hx : l[k]? = some x) (hy : m[k]? = some y) (h : eqB x y = false) : eqB l m = false := eqB_false.2 fun e => by
  rw [e, hy] at hx
  cases hx
  exact eqB_false.1 h rfl
theorem eqB_all {α : Type} {l m : List α} (hl : l.length = m.length) (h : ∀ j x y, j < l.length → l[j]? = some x → m[j]? = some y → eqB x y = true) : eqB l m = true := eqB_true.2 (by
  apply List.ext_getElem?
  intro j
  by_cases hj : j < l.length
  · have hx : l[j]? = some l[j] := List.getElem?_eq_getElem hj
    have hy : m[j]? = some (m[j]'(by omega)) := List.getElem?_eq_getElem (by omega)
    rw [hx, hy, eqB_true.1 (h j _ _ hj hx hy)]
  · rw [List.getElem?_eq_none (by omega), List.getElem?_eq_none (by omega)])
theorem eqB_self {α : Type} (a : α) : eqB a a = true := eqB_true.2 rfl
section
variable (w : World)
theorem kpart_str (cs : Array Value) (i : Nat) (x : Value) (h : cs[i]? = some x) : (part 9 cs i).run Tryd.prog w = .ok x w := by
  simp [part, isAgg, run_underlying Tryd.underlying9, h]
theorem kpart_bool (cs : Array Value) (i : Nat) (x : Value) (h : cs[i]? = some x) : (part 4 cs i).run Tryd.prog w = .ok x w := by
  simp [part, isAgg, run_underlying Tryd.underlying4, h]
theorem keq_step {f : Field} {fs : List Field} {xs ys : Array Value} {x y : Value} {r t : Bool} (hn : (f.name == "_") = false) (hx : (part f.type xs f.offset).run Tryd.prog w = .ok x w) (hy : (part f.type ys f.offset).run Tryd.prog w = .ok y w)
    (hr : (Op.equalIn 9999 f.type x y).run Tryd.prog w = .ok r w) (ht : (Op.eqFields 9999 xs ys fs).run Tryd.prog w = .ok t w) : (Op.eqFields 9999 xs ys (f :: fs)).run Tryd.prog w = .ok (r && t) w := by
  have hn2 : f.name ≠ "_" := by simpa using hn
  rw [Op.eqFields, if_pos hn2]
  simp only [Sem.run_bind, hx, hy, hr, Result.andThen_ok, Sem.run_ite]
  cases r
  · simp
  · simp [ht]
theorem keq_str (a b : List UInt8) : (Op.equalIn 9999 9 (.string (str a)) (.string (str b))).run Tryd.prog w = .ok (seq a b) w := by
  rw [run_equalIn_string w _ _ _ _ Tryd.underlying9, toList_seq]
theorem Ext.drewMM (w : World) (n : Nat) : Ext w (w.drewN n) := Ext.drewM w n
theorem krange_drew {b i : Nat} {cs : List Value} (h : w.rangeAt b i cs) : ∀ W, (∃ n, W = w.drewN n) → W.rangeAt b i cs := fun W ⟨n, e⟩ => by
  subst e
  exact fun j u hu => (Ext.drewM w n).cell (h j u hu)
end

theorem fields_ch : (Tryd.prog.fieldsOf 104).toList.map (fun f => (f.type, f.offset, f.name == "_")) = [(9, 0, false), (9, 1, false), (4, 2, false)] := by kernel_rfl
theorem eqf_ch (a b : Ch) (w : World) : (Op.eqFields 9999 #[.string (str a.k), .string (str a.v), .bool a.g] #[.string (str b.k), .string (str b.v), .bool b.g] (Tryd.prog.fieldsOf 104).toList).run Tryd.prog w = .ok (seq a.k b.k && (seq a.v b.v && ((a.g == b.g) && true))) w := by
  have hf := fields_ch
  obtain ⟨f0, s1, e, h0, hf⟩ := List.map_eq_cons_iff.1 hf
  rw [e]; clear e
  obtain ⟨f1, s2, rfl, h1, hf⟩ := List.map_eq_cons_iff.1 hf
  obtain ⟨f2, s3, rfl, h2, hf⟩ := List.map_eq_cons_iff.1 hf
  obtain rfl := List.map_eq_nil_iff.1 hf
  simp only [Prod.mk.injEq] at h0 h1 h2
  refine keq_step w h0.2.2 (by rw [h0.1, h0.2.1]; exact kpart_str w _ _ _ rfl) (by rw [h0.1, h0.2.1]; exact kpart_str w _ _ _ rfl) (by rw [h0.1]; exact keq_str w _ _) ?_
  refine keq_step w h1.2.2 (by rw [h1.1, h1.2.1]; exact kpart_str w _ _ _ rfl) (by rw [h1.1, h1.2.1]; exact kpart_str w _ _ _ rfl) (by rw [h1.1]; exact keq_str w _ _) ?_
  refine keq_step w h2.2.2 (by rw [h2.1, h2.2.1]; exact kpart_bool w _ _ _ rfl) (by rw [h2.1, h2.2.1]; exact kpart_bool w _ _ _ rfl) (by rw [h2.1]; exact run_equalIn_bool' w _ _ _ _ Tryd.underlying4) ?_
  rfl
theorem eqv_ch (a b : Ch) : (seq a.k b.k && (seq a.v b.v && ((a.g == b.g) && true))) = eqB a b := by
  rw [Bool.eq_iff_iff, eqB_true]
  obtain ⟨k, v, g⟩ := a
  obtain ⟨k', v', g'⟩ := b
  unfold seq
  simp
set_option maxRecDepth 20000 in
theorem neq_ch (a b : Ch) (w : World) : (binOp .neq 104 (.agg #[.string (str a.k), .string (str a.v), .bool a.g]) (.agg #[.string (str b.k), .string (str b.v), .bool b.g])).run Tryd.prog w = .ok (.bool (!eqB a b)) w := by
  rw [run_neq_struct, run_equalIn_struct w 9999 104 _ _ Tryd.underlying104 (by kernel_rfl), eqf_ch, eqv_ch]; rfl
/-- in a region that draws and only reads: a struct out of the middle of a row -/
theorem quiet_load_ch {ops : Array Oper} {C : World → Prop} {Q : Act → Prop} {a : Act} {o : Oper} {rest : List Oper} (hw : Region.wanted o (yielded ops a.tmps) = true) (x : Operand) (ho : o.op = .load 104 x) (b i : Nat)
    (hx : a.eval x = .pointer (some ⟨b, i, none⟩)) (r : Ch) (hC : ∀ w, C w → w.rangeAt b i (chc r)) (h : wpQuiet Tryd.prog ops C Q rest (a.put o.dst (.agg #[.string (str r.k), .string (str r.v), .bool r.g]))) : wpQuiet Tryd.prog ops C Q (o :: rest) a :=
  BigFrame.wpQuiet_want hw fun _ hK => ⟨_, fun w hw => by
    unfold Oper.quietAt execOp
    simp only [ho, hx, Instr.loadAt, Instr.sureAddr, Sem.run_bind, Sem.run_pure, Result.andThen_ok, run_loadVar_mid w b i 104 (chc r) _ (hC w hw) Tryd.underlying104 rfl info_ch]
    exact ⟨rfl, rfl⟩, hK _ h⟩
set_option maxRecDepth 20000 in
set_option maxHeartbeats 1000000 in
theorem refChs_any (v u : Value) (l m : List Ch) (w : World) (hb : Rs 3 chc chF w v l) (hc : Rs 3 chc chF w u m) :
    Calls Tryd.prog 49 #[v, u] w fun e w' => e = .returned (.bool (eqB l m)) ∧ Ext w w' := by
  have e0 := Ext.refl w
  obtain ⟨a, cap, rfl, hlen, hb⟩ := hb.shape
  obtain ⟨b, cap', rfl, hlen2, hc⟩ := hc.shape
  by_cases hne : l.length = m.length
  · obtain ⟨L, hL⟩ : ∃ L, L = l.length := ⟨_, rfl⟩
    have hL2 : L = m.length := by omega
    rw [← hL] at hlen ⊢
    rw [← hL2] at hlen2 ⊢
    have hbh := Lib.hid hb
    have hch := Lib.hid hc
    clear hb hc hne
    have hLh := Lib.hid hL
    have hL2h := Lib.hid hL2
    clear hL hL2
    go_enter Tryd.func49, Tryd.ntmps49
    go_wp2
    go_loopw [5] (fun i wr => ∃ k : Nat, k ≤ L ∧ i = .int .i64 k ∧ RowKit.Hid (∀ j x y, j < k → l[j]? = some x → m[j]? = some y → eqB x y = true) ∧ Ext w wr) (fun i _ => L - (intOf i).toNat)
    case atStart => exact ⟨0, Nat.zero_le _, rfl, Lib.hid (fun j x y hj => by omega), e0⟩
    case round =>
      obtain ⟨k, hk, rfl, hn, ek⟩ := hrel
      by_cases hlt : k < L
      · obtain ⟨x, hx⟩ : ∃ x, l[k]? = some x := ⟨_, List.getElem?_eq_getElem (by have := hLh.out; omega : k < l.length)⟩
        obtain ⟨y, hy⟩ : ∃ y, m[k]? = some y := ⟨_, List.getElem?_eq_getElem (by have := hL2h.out; omega : k < m.length)⟩
        obtain ⟨g, o, rfl, hr, -⟩ := hbh.out k x hx
        obtain ⟨g2, o2, rfl, hr2, -⟩ := hch.out k y hy
        have hki : (k : Int) < (L : Int) := by omega
        have hw : IntKind.i64.wrap ((k : Int) + 1) = (k : Int) + 1 := by rw [IntKind.wrap_i64]; omega
        have l1 := krange_drew wr (fun i u hu => ek.cell (hr i u hu) : wr.rangeAt g (o + k * 3) (chc x))
        have l2 := krange_drew wr (fun i u hu => ek.cell (hr2 i u hu) : wr.rangeAt g2 (o2 + k * 3) (chc y))
        have hq := fun W => neq_ch x y W
        have hno := Lib.hid (eqB_no hx hy)
        have hnx := Lib.hid (fun h => (fun j x' y' hj hx' hy' => if e : j = k then by subst e; rw [hx] at hx'; rw [hy] at hy'; cases hx'; cases hy'; exact h else hn.out j x' y' (by omega) hx' hy') : eqB x y = true → ∀ j x y, j < k + 1 → l[j]? = some x → m[j]? = some y → eqB x y = true)
        clear hr hr2 hn hx hy e0
        go_upto_region 6 with fail
        refine wp_region_quiet_lit (by kernel_rfl) (by kernel_rfl) ?_
        repeat (first | (quiet_step (fail)) | (refine quiet_load_ch (by rfl) _ rfl _ _ rfl x l1 ?_) | (refine quiet_load_ch (by rfl) _ rfl _ _ rfl y l2 ?_))
        refine wpQuiet_nil ?_
        rintro _ ⟨nq, rfl⟩
        have e1 := ek.trans (Ext.drewM wr nq)
        generalize wr.drewN nq = W1 at *
        clear l1 l2 hq
        cases hs : eqB x y
        · have hno2 := Lib.hid (hno.out hs)
          clear hno hnx
          go_wp2
          go_ret
          exact ⟨by rw [hno2.out]; rfl, e1⟩
        · have hnx2 := Lib.hid (hnx.out hs)
          clear hno hnx
          go_wp2
          go_roundw
          case rel => exact ⟨k + 1, by omega, by go_num, Lib.hid hnx2.out, e1⟩
          case measure => simp [intOf]; omega
      · obtain rfl : k = L := by omega
        have hf := Lib.hid (eqB_all (l := l) (m := m) (by rw [← hLh.out, ← hL2h.out]) (fun j x y hj => hn.out j x y (by rw [hLh.out]; exact hj)))
        clear hn
        go_wp2
        go_ret
        exact ⟨by rw [hf.out]; rfl, ek⟩
  · have hfl : ((l.length : Int) != (m.length : Int)) = true := by rw [bne_iff_ne]; omega
    have hf := Lib.hid (eqB_len hne)
    clear hb hc hne
    go_enter Tryd.func49, Tryd.ntmps49
    go_wp2
    go_ret
    exact ⟨by rw [hf.out]; rfl, e0⟩

theorem fields_pr : (Tryd.prog.fieldsOf 76).toList.map (fun f => (f.type, f.offset, f.name == "_")) = [(9, 0, false), (9, 1, false)] := by kernel_rfl
theorem eqf_pr (a b : Kv.Pr) (w : World) : (Op.eqFields 9999 #[.string (str a.n), .string (str a.v)] #[.string (str b.n), .string (str b.v)] (Tryd.prog.fieldsOf 76).toList).run Tryd.prog w = .ok (seq a.n b.n && (seq a.v b.v && true)) w := by
  have hf := fields_pr
  obtain ⟨f0, s1, e, h0, hf⟩ := List.map_eq_cons_iff.1 hf
  rw [e]; clear e
  obtain ⟨f1, s2, rfl, h1, hf⟩ := List.map_eq_cons_iff.1 hf
  obtain rfl := List.map_eq_nil_iff.1 hf
  simp only [Prod.mk.injEq] at h0 h1
  refine keq_step w h0.2.2 (by rw [h0.1, h0.2.1]; exact kpart_str w _ _ _ rfl) (by rw [h0.1, h0.2.1]; exact kpart_str w _ _ _ rfl) (by rw [h0.1]; exact keq_str w _ _) ?_
  refine keq_step w h1.2.2 (by rw [h1.1, h1.2.1]; exact kpart_str w _ _ _ rfl) (by rw [h1.1, h1.2.1]; exact kpart_str w _ _ _ rfl) (by rw [h1.1]; exact keq_str w _ _) ?_
  rfl
theorem eqv_pr (a b : Kv.Pr) : (seq a.n b.n && (seq a.v b.v && true)) = eqB a b := by
  rw [Bool.eq_iff_iff, eqB_true]
  obtain ⟨n, v⟩ := a
  obtain ⟨n', v'⟩ := b
  unfold seq
  simp
set_option maxRecDepth 20000 in
theorem neq_pr (a b : Kv.Pr) (w : World) : (binOp .neq 76 (.agg #[.string (str a.n), .string (str a.v)]) (.agg #[.string (str b.n), .string (str b.v)])).run Tryd.prog w = .ok (.bool (!eqB a b)) w := by
  rw [run_neq_struct, run_equalIn_struct w 9999 76 _ _ Tryd.underlying76 (by kernel_rfl), eqf_pr, eqv_pr]; rfl
/-- in a region that draws and only reads: a struct out of the middle of a row -/
theorem quiet_load_pr {ops : Array Oper} {C : World → Prop} {Q : Act → Prop} {a : Act} {o : Oper} {rest : List Oper} (hw : Region.wanted o (yielded ops a.tmps) = true) (x : Operand) (ho : o.op = .load 76 x) (b i : Nat)
    (hx : a.eval x = .pointer (some ⟨b, i, none⟩)) (r : Kv.Pr) (hC : ∀ w, C w → w.rangeAt b i (prcK r)) (h : wpQuiet Tryd.prog ops C Q rest (a.put o.dst (.agg #[.string (str r.n), .string (str r.v)]))) : wpQuiet Tryd.prog ops C Q (o :: rest) a :=
  BigFrame.wpQuiet_want hw fun _ hK => ⟨_, fun w hw => by
    unfold Oper.quietAt execOp
    simp only [ho, hx, Instr.loadAt, Instr.sureAddr, Sem.run_bind, Sem.run_pure, Result.andThen_ok, run_loadVar_mid w b i 76 (prcK r) _ (hC w hw) Tryd.underlying76 rfl info_pr]
    exact ⟨rfl, rfl⟩, hK _ h⟩
set_option maxRecDepth 20000 in
set_option maxHeartbeats 1000000 in
theorem refPrs_any (v u : Value) (l m : List Kv.Pr) (w : World) (hb : Rs 2 prcK prFK w v l) (hc : Rs 2 prcK prFK w u m) :
    Calls Tryd.prog 52 #[v, u] w fun e w' => e = .returned (.bool (eqB l m)) ∧ Ext w w' := by
  have e0 := Ext.refl w
  obtain ⟨a, cap, rfl, hlen, hb⟩ := hb.shape
  obtain ⟨b, cap', rfl, hlen2, hc⟩ := hc.shape
  by_cases hne : l.length = m.length
  · obtain ⟨L, hL⟩ : ∃ L, L = l.length := ⟨_, rfl⟩
    have hL2 : L = m.length := by omega
    rw [← hL] at hlen ⊢
    rw [← hL2] at hlen2 ⊢
    have hbh := Lib.hid hb
    have hch := Lib.hid hc
    clear hb hc hne
    have hLh := Lib.hid hL
    have hL2h := Lib.hid hL2
    clear hL hL2
    go_enter Tryd.func52, Tryd.ntmps52
    go_wp2
    go_loopw [5] (fun i wr => ∃ k : Nat, k ≤ L ∧ i = .int .i64 k ∧ RowKit.Hid (∀ j x y, j < k → l[j]? = some x → m[j]? = some y → eqB x y = true) ∧ Ext w wr) (fun i _ => L - (intOf i).toNat)
    case atStart => exact ⟨0, Nat.zero_le _, rfl, Lib.hid (fun j x y hj => by omega), e0⟩
    case round =>
      obtain ⟨k, hk, rfl, hn, ek⟩ := hrel
      by_cases hlt : k < L
      · obtain ⟨x, hx⟩ : ∃ x, l[k]? = some x := ⟨_, List.getElem?_eq_getElem (by have := hLh.out; omega : k < l.length)⟩
        obtain ⟨y, hy⟩ : ∃ y, m[k]? = some y := ⟨_, List.getElem?_eq_getElem (by have := hL2h.out; omega : k < m.length)⟩
        obtain ⟨g, o, rfl, hr, -⟩ := hbh.out k x hx
        obtain ⟨g2, o2, rfl, hr2, -⟩ := hch.out k y hy
        have hki : (k : Int) < (L : Int) := by omega
        have hw : IntKind.i64.wrap ((k : Int) + 1) = (k : Int) + 1 := by rw [IntKind.wrap_i64]; omega
        have l1 := krange_drew wr (fun i u hu => ek.cell (hr i u hu) : wr.rangeAt g (o + k * 2) (prcK x))
        have l2 := krange_drew wr (fun i u hu => ek.cell (hr2 i u hu) : wr.rangeAt g2 (o2 + k * 2) (prcK y))
        have hq := fun W => neq_pr x y W
        have hno := Lib.hid (eqB_no hx hy)
        have hnx := Lib.hid (fun h => (fun j x' y' hj hx' hy' => if e : j = k then by subst e; rw [hx] at hx'; rw [hy] at hy'; cases hx'; cases hy'; exact h else hn.out j x' y' (by omega) hx' hy') : eqB x y = true → ∀ j x y, j < k + 1 → l[j]? = some x → m[j]? = some y → eqB x y = true)
        clear hr hr2 hn hx hy e0
        go_upto_region 6 with fail
        refine wp_region_quiet_lit (by kernel_rfl) (by kernel_rfl) ?_
        repeat (first | (quiet_step (fail)) | (refine quiet_load_pr (by rfl) _ rfl _ _ rfl x l1 ?_) | (refine quiet_load_pr (by rfl) _ rfl _ _ rfl y l2 ?_))
        refine wpQuiet_nil ?_
        rintro _ ⟨nq, rfl⟩
        have e1 := ek.trans (Ext.drewM wr nq)
        generalize wr.drewN nq = W1 at *
        clear l1 l2 hq
        cases hs : eqB x y
        · have hno2 := Lib.hid (hno.out hs)
          clear hno hnx
          go_wp2
          go_ret
          exact ⟨by rw [hno2.out]; rfl, e1⟩
        · have hnx2 := Lib.hid (hnx.out hs)
          clear hno hnx
          go_wp2
          go_roundw
          case rel => exact ⟨k + 1, by omega, by go_num, Lib.hid hnx2.out, e1⟩
          case measure => simp [intOf]; omega
      · obtain rfl : k = L := by omega
        have hf := Lib.hid (eqB_all (l := l) (m := m) (by rw [← hLh.out, ← hL2h.out]) (fun j x y hj => hn.out j x y (by rw [hLh.out]; exact hj)))
        clear hn
        go_wp2
        go_ret
        exact ⟨by rw [hf.out]; rfl, ek⟩
  · have hfl : ((l.length : Int) != (m.length : Int)) = true := by rw [bne_iff_ne]; omega
    have hf := Lib.hid (eqB_len hne)
    clear hb hc hne
    go_enter Tryd.func52, Tryd.ntmps52
    go_wp2
    go_ret
    exact ⟨by rw [hf.out]; rfl, e0⟩

/-! ### of a size that is looked at -/
end Go.Proofs.YtmdepmohfnficaaDoor
