/- Pairs compared; the document's Pairs, Check. -/
import Derived.Test.YtnhgkklbjhjggaaCrK
import Derived.Laws.StructEq
namespace Go.Proofs.Ytnhgkklbjhjggaa
open Go.RowKit Cr

theorem fields_pair : (Try.prog.fieldsOf 42).toList.map (fun f => (f.type, f.offset, f.name == "_")) = [(9, 0, false), (9, 1, false)] := by kernel_rfl
section
variable (w : World)
theorem part_str (cs : Array Value) (i : Nat) (x : Value) (h : cs[i]? = some x) : (part 9 cs i).run Try.prog w = .ok x w := by
  simp [part, isAgg, run_underlying Try.underlying9, h]
theorem eq_step {f : Field} {fs : List Field} {xs ys : Array Value} {x y : Value} {r t : Bool} (hn : (f.name == "_") = false) (hx : (part f.type xs f.offset).run Try.prog w = .ok x w) (hy : (part f.type ys f.offset).run Try.prog w = .ok y w)
    (hr : (Op.equalIn 9999 f.type x y).run Try.prog w = .ok r w) (ht : (Op.eqFields 9999 xs ys fs).run Try.prog w = .ok t w) : (Op.eqFields 9999 xs ys (f :: fs)).run Try.prog w = .ok (r && t) w := by
  have hn2 : f.name ≠ "_" := by simpa using hn
  rw [Op.eqFields, if_pos hn2]
  simp only [Sem.run_bind, hx, hy, hr, Result.andThen_ok, Sem.run_ite]
  cases r
  · simp
  · simp [ht]
end
theorem eq_str (w : World) (a b : List UInt8) : (Op.equalIn 9999 9 (.string (str a)) (.string (str b))).run Try.prog w = .ok (seq a b) w := by
  rw [run_equalIn_string w _ _ _ _ Try.underlying9, toList_seq]
theorem pair_fields (a b : Pr) (w : World) : (Op.eqFields 9999 #[.string (str a.n), .string (str a.v)] #[.string (str b.n), .string (str b.v)] (Try.prog.fieldsOf 42).toList).run Try.prog w = .ok (seq a.n b.n && (seq a.v b.v && true)) w := by
  have hf := fields_pair
  obtain ⟨f0, s1, e, h0, hf⟩ := List.map_eq_cons_iff.1 hf
  rw [e]; clear e
  obtain ⟨f1, s2, rfl, h1, hf⟩ := List.map_eq_cons_iff.1 hf
  obtain rfl := List.map_eq_nil_iff.1 hf
  simp only [Prod.mk.injEq] at h0 h1
  refine eq_step w h0.2.2 (by rw [h0.1, h0.2.1]; exact part_str w _ _ _ rfl) (by rw [h0.1, h0.2.1]; exact part_str w _ _ _ rfl) (by rw [h0.1]; exact eq_str w _ _) ?_
  refine eq_step w h1.2.2 (by rw [h1.1, h1.2.1]; exact part_str w _ _ _ rfl) (by rw [h1.1, h1.2.1]; exact part_str w _ _ _ rfl) (by rw [h1.1]; exact eq_str w _ _) ?_
  rw [Op.eqFields]; rfl
namespace Cr
def pq (a b : Pr) : Bool := seq a.n b.n && (seq a.v b.v && true)
theorem pq_self (a : Pr) : pq a a = true := by simp [pq, seq]
theorem pq_true {a b : Pr} : pq a b = true ↔ a = b := by
  obtain ⟨n, v⟩ := a
  obtain ⟨n', v'⟩ := b
  simp [pq, seq]
end Cr
theorem pair_eql (a b : Pr) (w : World) : (binOp .eql 42 (.agg #[.string (str a.n), .string (str a.v)]) (.agg #[.string (str b.n), .string (str b.v)])).run Try.prog w = .ok (.bool (pq a b)) w := by
  rw [run_eql_struct, run_equalIn_struct w 9999 42 _ _ Try.underlying42 (by kernel_rfl), pair_fields]; rfl
theorem pair_neq (a b : Pr) (w : World) : (binOp .neq 42 (.agg #[.string (str a.n), .string (str a.v)]) (.agg #[.string (str b.n), .string (str b.v)])).run Try.prog w = .ok (.bool (!pq a b)) w := by
  rw [run_neq_struct, run_equalIn_struct w 9999 42 _ _ Try.underlying42 (by kernel_rfl), pair_fields]; rfl
theorem pairs_same (va vb : Value) (l : List Pr) (w : World) (ha : Prs w va l) (hb : Prs w vb l) :
    Calls Try.prog 15 #[va, vb] w fun e w' => e = .returned (.bool true) ∧ Ext w w' := by
  obtain ⟨a, cap, rfl, hlen, hget⟩ := Rw.shape ha
  obtain ⟨b, capb, rfl, -, hgetb⟩ := Rw.shape hb
  have hga := Lib.hid hget
  have hgb := Lib.hid hgetb
  have e0 := Ext.refl w
  clear hget hgetb ha hb
  go_enter Try.func15, Try.ntmps15
  go_wp2
  go_loopw [5] (fun i wr => ∃ k : Nat, k ≤ l.length ∧ i = .int .i64 (k : Int) ∧ Ext w wr) (fun i _ => l.length - (intOf i).toNat)
  case atStart => exact ⟨0, Nat.zero_le _, rfl, e0⟩
  case round =>
    obtain ⟨k, hk, rfl, ek⟩ := hrel
    clear e0
    by_cases hlt : k < l.length
    · obtain ⟨x, hx⟩ := some_at hlt
      obtain ⟨g, o, cs, rfl, hr, rfl, hf⟩ := hga.out k x hx
      obtain ⟨g2, o2, cs2, rfl, hr2, rfl, -⟩ := hgb.out k x hx
      have hki : (k : Int) < (l.length : Int) := by omega
      have hw : IntKind.i64.wrap ((k : Int) + 1) = (k : Int) + 1 := by rw [IntKind.wrap_i64]; omega
      obtain ⟨a0, a1⟩ := pr_cells (fun i u hu => ek.cell (hr i u hu) : wr.rangeAt g (o + k * 2) (prc x))
      obtain ⟨b0, b1⟩ := pr_cells (fun i u hu => ek.cell (hr2 i u hu) : wr.rangeAt g2 (o2 + k * 2) (prc x))
      have hq : ∀ W, (binOp .neq 42 (.agg #[.string (str x.n), .string (str x.v)]) (.agg #[.string (str x.n), .string (str x.v)])).run Try.prog W = .ok (.bool false) W := fun W => by rw [pair_neq, pq_self]; rfl
      clear hr hr2 hf hx
      go_upto_region 6 with fail
      go_region
      go_wp2
      go_roundw
      case rel => exact ⟨k + 1, by omega, by go_num, by first | exact ek | exact ek.drew⟩
      case measure => simp [intOf]; omega
    · obtain rfl : k = l.length := by omega
      go_wp2
      go_ret
      exact ⟨rfl, ek⟩
theorem refCheck_any (v : Value) (l : List Us) (name pw : List UInt8) (w : World) (h : Uss w v l) :
    Calls Try.prog 14 #[v, .string (str name), .string (str pw)] w fun e w' => e = .returned (.bool (check l name pw)) ∧ w = w' := by
  have hA := refAt_any v l name w h
  obtain ⟨a, cap, rfl, hlen, hget⟩ := Rw.shape h
  rcases at_who name l 0 with ⟨h1, h2⟩ | ⟨j, x, h1, h2, h3⟩
  · have hn := Lib.hid (show check l name pw = false from by unfold check; rw [h1])
    rw [h2] at hA
    clear hget h
    go_enter Try.func14, Try.ntmps14
    go_wp2_with (go_at_call 18; refine hA.mono ?_; rintro e w' ⟨rfl, rfl⟩)
    go_ret
    exact ⟨by rw [hn.out]; rfl, rfl⟩
  · have hn := Lib.hid (show check l name pw = seq x.p pw from by unfold check; rw [h1])
    rw [h3, Nat.zero_add] at hA
    obtain ⟨g, o, cs, rfl, hr, sl, rfl, -, -⟩ := hget j x h2
    have c1 := (us_cells hr).2.1
    have hj := (List.getElem?_eq_some_iff.1 h2).1
    have hji : (j : Int) < (l.length : Int) := by omega
    clear hget h hr h2 h3 h1
    go_enter Try.func14, Try.ntmps14
    go_wp2_with (go_at_call 18; refine hA.mono ?_; rintro e w' ⟨rfl, rfl⟩)
    go_ret
    exact ⟨by rw [hn.out]; rfl, rfl⟩
end Go.Proofs.Ytnhgkklbjhjggaa
