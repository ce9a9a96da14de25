/- Records compared; the chapter's examples. -/
import Derived.Test.YtmdepmohfnficaaDoorRecD
import Derived.Laws.StructEq
namespace Go.Proofs.YtmdepmohfnficaaDoor
set_option linter.unusedVariables false
set_option linter.unusedSimpArgs false
open Go.RowKit Rk

theorem fields_rec : (Tryd.prog.fieldsOf 36).toList.map (fun f => (f.type, f.offset, f.name == "_")) = [(3, 0, false), (9, 1, false), (9, 2, false), (9, 3, false), (9, 4, false), (9, 5, false), (3, 6, false), (3, 7, false), (3, 8, false), (4, 9, false)] := by kernel_rfl
section
variable (w : World)
theorem part_int (cs : Array Value) (i : Nat) (x : Value) (h : cs[i]? = some x) : (part 3 cs i).run Tryd.prog w = .ok x w := by
  simp [part, isAgg, run_underlying Tryd.underlying3, h]
theorem part_str (cs : Array Value) (i : Nat) (x : Value) (h : cs[i]? = some x) : (part 9 cs i).run Tryd.prog w = .ok x w := by
  simp [part, isAgg, run_underlying Tryd.underlying9, h]
theorem part_bool (cs : Array Value) (i : Nat) (x : Value) (h : cs[i]? = some x) : (part 4 cs i).run Tryd.prog w = .ok x w := by
  simp [part, isAgg, run_underlying Tryd.underlying4, h]
theorem eq_step {f : Field} {fs : List Field} {xs ys : Array Value} {x y : Value} {r t : Bool} (hn : (f.name == "_") = false) (hx : (part f.type xs f.offset).run Tryd.prog w = .ok x w) (hy : (part f.type ys f.offset).run Tryd.prog w = .ok y w)
    (hr : (Op.equalIn 9999 f.type x y).run Tryd.prog w = .ok r w) (ht : (Op.eqFields 9999 xs ys fs).run Tryd.prog w = .ok t w) : (Op.eqFields 9999 xs ys (f :: fs)).run Tryd.prog w = .ok (r && t) w := by
  have hn2 : f.name ≠ "_" := by simpa using hn
  rw [Op.eqFields, if_pos hn2]
  simp only [Sem.run_bind, hx, hy, hr, Result.andThen_ok, Sem.run_ite]
  cases r
  · simp
  · simp [ht]
end
theorem eq_str (w : World) (a b : List UInt8) : (Op.equalIn 9999 9 (.string (str a)) (.string (str b))).run Tryd.prog w = .ok (seq a b) w := by
  rw [run_equalIn_string w _ _ _ _ Tryd.underlying9, toList_seq]
theorem rec_fields (a b : Rec) (w : World) : (Op.eqFields 9999 (rcells a) (rcells b) (Tryd.prog.fieldsOf 36).toList).run Tryd.prog w = .ok ((a.kind == b.kind) && (seq a.name b.name && (seq a.par b.par && (seq a.user b.user && (seq a.serv b.serv && (seq a.url b.url && ((a.made == b.made) && ((a.used == b.used) && ((a.uses == b.uses) && ((a.fresh == b.fresh) && true)))))))))) w := by
  have hf := fields_rec
  obtain ⟨f0, s1, e, h0, hf⟩ := List.map_eq_cons_iff.1 hf
  rw [e]; clear e
  obtain ⟨f1, s2, rfl, h1, hf⟩ := List.map_eq_cons_iff.1 hf
  obtain ⟨f2, s3, rfl, h2, hf⟩ := List.map_eq_cons_iff.1 hf
  obtain ⟨f3, s4, rfl, h3, hf⟩ := List.map_eq_cons_iff.1 hf
  obtain ⟨f4, s5, rfl, h4, hf⟩ := List.map_eq_cons_iff.1 hf
  obtain ⟨f5, s6, rfl, h5, hf⟩ := List.map_eq_cons_iff.1 hf
  obtain ⟨f6, s7, rfl, h6, hf⟩ := List.map_eq_cons_iff.1 hf
  obtain ⟨f7, s8, rfl, h7, hf⟩ := List.map_eq_cons_iff.1 hf
  obtain ⟨f8, s9, rfl, h8, hf⟩ := List.map_eq_cons_iff.1 hf
  obtain ⟨f9, s10, rfl, h9, hf⟩ := List.map_eq_cons_iff.1 hf
  obtain rfl := List.map_eq_nil_iff.1 hf
  simp only [Prod.mk.injEq] at h0 h1 h2 h3 h4 h5 h6 h7 h8 h9
  refine eq_step w h0.2.2 (by rw [h0.1, h0.2.1]; exact part_int w _ _ _ rfl) (by rw [h0.1, h0.2.1]; exact part_int w _ _ _ rfl) (by rw [h0.1]; exact run_equalIn_int w _ _ _ _ _ _ Tryd.underlying3) ?_
  refine eq_step w h1.2.2 (by rw [h1.1, h1.2.1]; exact part_str w _ _ _ rfl) (by rw [h1.1, h1.2.1]; exact part_str w _ _ _ rfl) (by rw [h1.1]; exact eq_str w _ _) ?_
  refine eq_step w h2.2.2 (by rw [h2.1, h2.2.1]; exact part_str w _ _ _ rfl) (by rw [h2.1, h2.2.1]; exact part_str w _ _ _ rfl) (by rw [h2.1]; exact eq_str w _ _) ?_
  refine eq_step w h3.2.2 (by rw [h3.1, h3.2.1]; exact part_str w _ _ _ rfl) (by rw [h3.1, h3.2.1]; exact part_str w _ _ _ rfl) (by rw [h3.1]; exact eq_str w _ _) ?_
  refine eq_step w h4.2.2 (by rw [h4.1, h4.2.1]; exact part_str w _ _ _ rfl) (by rw [h4.1, h4.2.1]; exact part_str w _ _ _ rfl) (by rw [h4.1]; exact eq_str w _ _) ?_
  refine eq_step w h5.2.2 (by rw [h5.1, h5.2.1]; exact part_str w _ _ _ rfl) (by rw [h5.1, h5.2.1]; exact part_str w _ _ _ rfl) (by rw [h5.1]; exact eq_str w _ _) ?_
  refine eq_step w h6.2.2 (by rw [h6.1, h6.2.1]; exact part_int w _ _ _ rfl) (by rw [h6.1, h6.2.1]; exact part_int w _ _ _ rfl) (by rw [h6.1]; exact run_equalIn_int w _ _ _ _ _ _ Tryd.underlying3) ?_
  refine eq_step w h7.2.2 (by rw [h7.1, h7.2.1]; exact part_int w _ _ _ rfl) (by rw [h7.1, h7.2.1]; exact part_int w _ _ _ rfl) (by rw [h7.1]; exact run_equalIn_int w _ _ _ _ _ _ Tryd.underlying3) ?_
  refine eq_step w h8.2.2 (by rw [h8.1, h8.2.1]; exact part_int w _ _ _ rfl) (by rw [h8.1, h8.2.1]; exact part_int w _ _ _ rfl) (by rw [h8.1]; exact run_equalIn_int w _ _ _ _ _ _ Tryd.underlying3) ?_
  refine eq_step w h9.2.2 (by rw [h9.1, h9.2.1]; exact part_bool w _ _ _ rfl) (by rw [h9.1, h9.2.1]; exact part_bool w _ _ _ rfl) (by rw [h9.1]; exact run_equalIn_bool' w _ _ _ _ Tryd.underlying4) ?_
  rfl
/-- are records one? -/
def req (a b : Rec) : Bool := decide (a = b)
theorem req_fields (a b : Rec) : ((a.kind == b.kind) && (seq a.name b.name && (seq a.par b.par && (seq a.user b.user && (seq a.serv b.serv && (seq a.url b.url && ((a.made == b.made) && ((a.used == b.used) && ((a.uses == b.uses) && ((a.fresh == b.fresh) && true)))))))))) = req a b := by
  obtain ⟨k, n, p, u, sv, ur, m, us, ct, f⟩ := a
  obtain ⟨k', n', p', u', sv', ur', m', us', ct', f'⟩ := b
  unfold req seq
  rw [Bool.eq_iff_iff]
  simp
set_option maxRecDepth 20000 in
theorem rec_eql (a b : Rec) (w : World) : (binOp .eql 36 (.agg (rcells a)) (.agg (rcells b))).run Tryd.prog w = .ok (.bool (req a b)) w := by
  rw [run_eql_struct, run_equalIn_struct w 9999 36 _ _ Tryd.underlying36 (by kernel_rfl), rec_fields, req_fields]; rfl
set_option maxRecDepth 20000 in
theorem rec_neq (a b : Rec) (w : World) : (binOp .neq 36 (.agg (rcells a)) (.agg (rcells b))).run Tryd.prog w = .ok (.bool (!req a b)) w := by
  rw [run_neq_struct, run_equalIn_struct w 9999 36 _ _ Tryd.underlying36 (by kernel_rfl), rec_fields, req_fields]; rfl
theorem req_self (a : Rec) : req a a = true := by simp [req]

def nm7 : List UInt8 := Tk.nameI 1 (7#64).toNat
def rec7 : Rec := ⟨1, nm7, [], [117], [], [], 5, 5, 0, false⟩
theorem rec7_right : rightI rec7 = true := by decide +kernel
theorem rec7_enc : (encS rec7).length = 24 ∧ byteAt (encS rec7) 0 = 1 ∧ encE rec7 = 0 := by
  have hr := rec7_right
  unfold encS encE
  rw [hr]
  exact ⟨by decide +kernel, by decide +kernel, rfl⟩
theorem dec_enc {r : Rec} (h : rightI r = true) : decR r.name (encS r) = r ∧ decE r.name (encS r) = 0 := by
  have hd : dec r.name (encS r) = some r := (dec_iff _ _ _).2 ⟨h, rfl, by unfold encS; rw [h]; rfl⟩
  unfold decR decE
  rw [hd]; exact ⟨rfl, rfl⟩
theorem name_7 (w : World) :
    Calls Tryd.prog 53 #[.int .i64 1, .int .u64 7] w fun e w' => e = .returned (.tuple #[.string (str nm7), .int .i64 (Tk.errI 1)]) ∧ w = w' := refName_any 1 7#64 w
theorem encode_r (r : Rec) (hf : Fits r) (w : World) (hw : Pres w) :
    Calls Tryd.prog 75 #[.agg (rcells r)] w fun e w' => e = .returned (.tuple #[.string (str (encS r)), .int .i64 (encE r)]) ∧ Ext w w' := encode_any r hf w hw
theorem decode_r (name s : List UInt8) (hn : name.length ≤ 1000) (hs : s.length ≤ 1000) (w : World) (hw : Pres w) :
    Calls Tryd.prog 73 #[.string (str name), .string (str s)] w fun e w' => e = .returned (.tuple #[.agg (rcells (decR name s)), .int .i64 (decE name s)]) ∧ Ext w w' := decode_any name s hn hs w hw
theorem right_r (r : Rec) (hf : Fits r) (w : World) (hw : Pres w) :
    Calls Tryd.prog 84 #[.agg (rcells r)] w fun e w' => e = .returned (.bool (rightI r)) ∧ Ext w w' := right_any r hf w hw
theorem wpList_load_rowG {P : Program} {ops : Array Oper} {rest : List Oper} {o : Oper} {a : Act} {w : World} {Q : Exit → Act → World → Prop} (hw : Region.wanted o (yielded ops a.tmps) = true) (ty : TypeId) (x : Operand) (ho : o.op = .load ty x)
    (g : Nat) (hx : a.eval x = .pointer (some ⟨g, 0, none⟩)) (t : TypeId) (cs : Array Value) (fr : Nat × Nat) (d : TypeDesc) (hg : w.heap[g]? = some (.cells cs t fr))
    (hu : P.underlying ty = some d) (hd : (match d with | .struct _ | .array _ _ => true | _ => false) = true) (hi : (P.info? ty).map (·.size) = some cs.size)
    (h : wpList P ops Q rest (a.put o.dst (.agg cs)) w) : wpList P ops Q (o :: rest) a w :=
  wpList_step fun _ hK => by
    rw [if_pos hw]
    exact wp_load_row ty x ho g hx t cs fr d hg hu hd hi (hK _ _ h)
theorem info_rc (r : Rec) : (Tryd.prog.info? 36).map (·.size) = some (rcells r).size := info_rec
theorem rc_size (r : Rec) : zcells.size = (rcells r).size := rfl
theorem rec7_cells : (#[.int .i64 1, .string (str nm7), .string (str []), .string (str [117]), .string (str []), .string (str []), .int .i64 5, .int .i64 5, .int .i64 0, .bool false] : Array Value) = rcells rec7 := rfl
attribute [local irreducible] rcells cm isI Tk.pk Tk.pn Tk.pok rightI enc encS encE parI decR decE nm7 req
def fewI (r : Rec) : Bool := decide (r.name.length ≤ 60) && decide (r.par.length ≤ 60) && decide (r.user.length ≤ 120) && decide (r.serv.length ≤ 120) && decide (r.url.length ≤ 120)
theorem few_any (r : Rec) (w : World) :
    Calls Tryd.prog 56 #[.agg (rcells r)] w fun e w' => e = .returned (.bool (fewI r)) ∧ Ext w w' := by
  have e0 := Ext.refl w
  have hF : RowKit.Hid (fewI r = (decide (r.name.length ≤ 60) && decide (r.par.length ≤ 60) && decide (r.user.length ≤ 120) && decide (r.serv.length ≤ 120) && decide (r.url.length ≤ 120))) := Lib.hid rfl
  unfold rcells
  go_enter Tryd.func56, Tryd.ntmps56
  go_wp2
  all_goals
    go_ret
    refine ⟨?_, e0.alloc _⟩
    rw [hF.out]
    refine congrArg (fun b => Ending.returned (.bool b)) ?_
    rw [Bool.eq_iff_iff]
    simp <;> omega

end Go.Proofs.YtmdepmohfnficaaDoor
