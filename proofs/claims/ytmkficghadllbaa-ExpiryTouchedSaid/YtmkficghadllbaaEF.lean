/- Records compared. -/
import Derived.Test.YtmkficghadllbaaEE
import Derived.Laws.StructEq
namespace Go.Proofs.Ytmkficghadllbaa
open Go.RowKit Rk

def rcells (r : Rec) : Array Value := #[.int .i64 r.kind, .string (str r.name), .string (str r.par), .string (str r.user), .string (str r.serv), .string (str r.url), .int .i64 r.made, .int .i64 r.used, .int .i64 r.uses, .bool r.fresh]
theorem fields_rec : (Try.prog.fieldsOf 23).toList.map (fun f => (f.type, f.offset, f.name == "_")) = [(3, 0, false), (9, 1, false), (9, 2, false), (9, 3, false), (9, 4, false), (9, 5, false), (3, 6, false), (3, 7, false), (3, 8, false), (4, 9, false)] := by kernel_rfl
section
variable (w : World)
theorem part_int (cs : Array Value) (i : Nat) (x : Value) (h : cs[i]? = some x) : (part 3 cs i).run Try.prog w = .ok x w := by
  simp [part, isAgg, run_underlying Try.underlying3, h]
theorem part_str (cs : Array Value) (i : Nat) (x : Value) (h : cs[i]? = some x) : (part 9 cs i).run Try.prog w = .ok x w := by
  simp [part, isAgg, run_underlying Try.underlying9, h]
theorem part_bool (cs : Array Value) (i : Nat) (x : Value) (h : cs[i]? = some x) : (part 4 cs i).run Try.prog w = .ok x w := by
  simp [part, isAgg, run_underlying Try.underlying4, h]
theorem eq_step {f : Field} {fs : List Field} {xs ys : Array Value} {x y : Value} {r t : Bool} (hn : (f.name == "_") = false) (hx : (part f.type xs f.offset).run Try.prog w = .ok x w) (hy : (part f.type ys f.offset).run Try.prog w = .ok y w)
    (hr : (Op.equalIn 9999 f.type x y).run Try.prog w = .ok r w) (ht : (Op.eqFields 9999 xs ys fs).run Try.prog w = .ok t w) : (Op.eqFields 9999 xs ys (f :: fs)).run Try.prog w = .ok (r && t) w := by
  have hn2 : f.name ≠ "_" := by simpa using hn
  rw [Op.eqFields, if_pos hn2]
  simp only [Sem.run_bind, hx, hy, hr, Result.andThen_ok, Sem.run_ite]
  cases r
  · simp
  · simp [ht]
end
theorem eq_str (w : World) (a b : List UInt8) : (Op.equalIn 9999 9 (.string (str a)) (.string (str b))).run Try.prog w = .ok (seq a b) w := by
  rw [run_equalIn_string w _ _ _ _ Try.underlying9, toList_seq]
theorem rec_fields (a b : Rec) (w : World) : (Op.eqFields 9999 (rcells a) (rcells b) (Try.prog.fieldsOf 23).toList).run Try.prog w = .ok ((a.kind == b.kind) && (seq a.name b.name && (seq a.par b.par && (seq a.user b.user && (seq a.serv b.serv && (seq a.url b.url && ((a.made == b.made) && ((a.used == b.used) && ((a.uses == b.uses) && ((a.fresh == b.fresh) && true)))))))))) w := by
  have hf := fields_rec
  obtain ⟨f0, s1, e, h0, hf⟩ := List.map_eq_cons_iff.1 hf
  rw [e]; clear e
  obtain ⟨f1, s2, rfl, h1, hf⟩ := List.map_eq_cons_iff.1 hf
  obtain ⟨f2, s3, rfl, h2, hf⟩ := List.map_eq_cons_iff.1 hf
  obtain ⟨f3, s4, rfl, h3, hf⟩ := List.map_eq_cons_iff.1 hf
  obtain ⟨f4, s5, rfl, h4, hf⟩ := List.map_eq_cons_iff.1 hf
  obtain ⟨f5, s6, rfl, h5, hf⟩ := List.map_eq_cons_iff.1 hf
  obtain ⟨f6, s7, rfl, h6, hf⟩ := List.map_eq_cons_iff.1 hf
  obtain ⟨f7, s8, rfl, h7, hf⟩ := List.map_eq_cons_iff.1 hf
  obtain ⟨f8, s9, rfl, h8, hf⟩ := List.map_eq_cons_iff.1 hf
  obtain ⟨f9, s10, rfl, h9, hf⟩ := List.map_eq_cons_iff.1 hf
  obtain rfl := List.map_eq_nil_iff.1 hf
  simp only [Prod.mk.injEq] at h0 h1 h2 h3 h4 h5 h6 h7 h8 h9
  refine eq_step w h0.2.2 (by rw [h0.1, h0.2.1]; exact part_int w _ _ _ rfl) (by rw [h0.1, h0.2.1]; exact part_int w _ _ _ rfl) (by rw [h0.1]; exact run_equalIn_int w _ _ _ _ _ _ Try.underlying3) ?_
  refine eq_step w h1.2.2 (by rw [h1.1, h1.2.1]; exact part_str w _ _ _ rfl) (by rw [h1.1, h1.2.1]; exact part_str w _ _ _ rfl) (by rw [h1.1]; exact eq_str w _ _) ?_
  refine eq_step w h2.2.2 (by rw [h2.1, h2.2.1]; exact part_str w _ _ _ rfl) (by rw [h2.1, h2.2.1]; exact part_str w _ _ _ rfl) (by rw [h2.1]; exact eq_str w _ _) ?_
  refine eq_step w h3.2.2 (by rw [h3.1, h3.2.1]; exact part_str w _ _ _ rfl) (by rw [h3.1, h3.2.1]; exact part_str w _ _ _ rfl) (by rw [h3.1]; exact eq_str w _ _) ?_
  refine eq_step w h4.2.2 (by rw [h4.1, h4.2.1]; exact part_str w _ _ _ rfl) (by rw [h4.1, h4.2.1]; exact part_str w _ _ _ rfl) (by rw [h4.1]; exact eq_str w _ _) ?_
  refine eq_step w h5.2.2 (by rw [h5.1, h5.2.1]; exact part_str w _ _ _ rfl) (by rw [h5.1, h5.2.1]; exact part_str w _ _ _ rfl) (by rw [h5.1]; exact eq_str w _ _) ?_
  refine eq_step w h6.2.2 (by rw [h6.1, h6.2.1]; exact part_int w _ _ _ rfl) (by rw [h6.1, h6.2.1]; exact part_int w _ _ _ rfl) (by rw [h6.1]; exact run_equalIn_int w _ _ _ _ _ _ Try.underlying3) ?_
  refine eq_step w h7.2.2 (by rw [h7.1, h7.2.1]; exact part_int w _ _ _ rfl) (by rw [h7.1, h7.2.1]; exact part_int w _ _ _ rfl) (by rw [h7.1]; exact run_equalIn_int w _ _ _ _ _ _ Try.underlying3) ?_
  refine eq_step w h8.2.2 (by rw [h8.1, h8.2.1]; exact part_int w _ _ _ rfl) (by rw [h8.1, h8.2.1]; exact part_int w _ _ _ rfl) (by rw [h8.1]; exact run_equalIn_int w _ _ _ _ _ _ Try.underlying3) ?_
  refine eq_step w h9.2.2 (by rw [h9.1, h9.2.1]; exact part_bool w _ _ _ rfl) (by rw [h9.1, h9.2.1]; exact part_bool w _ _ _ rfl) (by rw [h9.1]; exact run_equalIn_bool' w _ _ _ _ Try.underlying4) ?_
  rfl
/-- are records one? -/
def req (a b : Rec) : Bool := decide (a = b)
theorem req_fields (a b : Rec) : ((a.kind == b.kind) && (seq a.name b.name && (seq a.par b.par && (seq a.user b.user && (seq a.serv b.serv && (seq a.url b.url && ((a.made == b.made) && ((a.used == b.used) && ((a.uses == b.uses) && ((a.fresh == b.fresh) && true)))))))))) = req a b := by
  obtain ⟨k, n, p, u, sv, ur, m, us, ct, f⟩ := a
  obtain ⟨k', n', p', u', sv', ur', m', us', ct', f'⟩ := b
  unfold req seq
  rw [Bool.eq_iff_iff]
  simp
theorem rec_eql (a b : Rec) (w : World) : (binOp .eql 23 (.agg (rcells a)) (.agg (rcells b))).run Try.prog w = .ok (.bool (req a b)) w := by
  rw [run_eql_struct, run_equalIn_struct w 9999 23 _ _ Try.underlying23 (by kernel_rfl), rec_fields, req_fields]; rfl
theorem rec_neq (a b : Rec) (w : World) : (binOp .neq 23 (.agg (rcells a)) (.agg (rcells b))).run Try.prog w = .ok (.bool (!req a b)) w := by
  rw [run_neq_struct, run_equalIn_struct w 9999 23 _ _ Try.underlying23 (by kernel_rfl), rec_fields, req_fields]; rfl
theorem req_self (a : Rec) : req a a = true := by simp [req]

def fewI (r : Rec) : Bool := decide (r.name.length ≤ 60) && decide (r.par.length ≤ 60) && decide (r.user.length ≤ 120) && decide (r.serv.length ≤ 120) && decide (r.url.length ≤ 120)
theorem few_any (r : Rec) (w : World) :
    Calls Try.prog 5 #[.agg (rcells r)] w fun e w' => e = .returned (.bool (fewI r)) ∧ Ext w w' := by
  have e0 := Ext.refl w
  have hF : RowKit.Hid (fewI r = (decide (r.name.length ≤ 60) && decide (r.par.length ≤ 60) && decide (r.user.length ≤ 120) && decide (r.serv.length ≤ 120) && decide (r.url.length ≤ 120))) := Lib.hid rfl
  unfold rcells
  go_enter Try.func5, Try.ntmps5
  go_wp2
  all_goals
    go_ret
    refine ⟨?_, e0.alloc _⟩
    rw [hF.out]
    refine congrArg (fun b => Ending.returned (.bool b)) ?_
    rw [Bool.eq_iff_iff]
    simp <;> omega

end Go.Proofs.Ytmkficghadllbaa
