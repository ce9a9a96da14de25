/- Records compared; the chapter's examples. -/
import Derived.Test.YtkpcdbalhpmpmaaDoorRecD
import Derived.Laws.StructEq
namespace Go.Proofs.YtkpcdbalhpmpmaaDoor
open Go.RowKit Rk

theorem fields_rec : (Tryd.prog.fieldsOf 50).toList.map (fun f => (f.type, f.offset, f.name == "_")) = [(3, 0, false), (9, 1, false), (9, 2, false), (9, 3, false), (9, 4, false), (9, 5, false), (3, 6, false), (3, 7, false), (3, 8, false), (4, 9, false)] := by kernel_rfl
section
variable (w : World)
theorem part_int (cs : Array Value) (i : Nat) (x : Value) (h : cs[i]? = some x) : (part 3 cs i).run Tryd.prog w = .ok x w := by
  simp [part, isAgg, run_underlying Tryd.underlying3, h]
theorem part_str (cs : Array Value) (i : Nat) (x : Value) (h : cs[i]? = some x) : (part 9 cs i).run Tryd.prog w = .ok x w := by
  simp [part, isAgg, run_underlying Tryd.underlying9, h]
theorem part_bool (cs : Array Value) (i : Nat) (x : Value) (h : cs[i]? = some x) : (part 4 cs i).run Tryd.prog w = .ok x w := by
  simp [part, isAgg, run_underlying Tryd.underlying4, h]
theorem eq_step {f : Field} {fs : List Field} {xs ys : Array Value} {x y : Value} {r t : Bool} (hn : (f.name == "_") = false) (hx : (part f.type xs f.offset).run Tryd.prog w = .ok x w) (hy : (part f.type ys f.offset).run Tryd.prog w = .ok y w)
    (hr : (Op.equalIn 9999 f.type x y).run Tryd.prog w = .ok r w) (ht : (Op.eqFields 9999 xs ys fs).run Tryd.prog w = .ok t w) : (Op.eqFields 9999 xs ys (f :: fs)).run Tryd.prog w = .ok (r && t) w := by
  have hn2 : f.name ≠ "_" := by simpa using hn
  rw [Op.eqFields, if_pos hn2]
  simp only [Sem.run_bind, hx, hy, hr, Result.andThen_ok, Sem.run_ite]
  cases r
  · simp
  · simp [ht]
end
theorem eq_str (w : World) (a b : List UInt8) : (Op.equalIn 9999 9 (.string (str a)) (.string (str b))).run Tryd.prog w = .ok (seq a b) w := by
  rw [run_equalIn_string w _ _ _ _ Tryd.underlying9, toList_seq]
theorem rec_fields (a b : Rec) (w : World) : (Op.eqFields 9999 (rcells a) (rcells b) (Tryd.prog.fieldsOf 50).toList).run Tryd.prog w = .ok ((a.kind == b.kind) && (seq a.name b.name && (seq a.par b.par && (seq a.user b.user && (seq a.serv b.serv && (seq a.url b.url && ((a.made == b.made) && ((a.used == b.used) && ((a.uses == b.uses) && ((a.fresh == b.fresh) && true)))))))))) w := by
  have hf := fields_rec
  obtain ⟨f0, s1, e, h0, hf⟩ := List.map_eq_cons_iff.1 hf
  rw [e]; clear e
  obtain ⟨f1, s2, rfl, h1, hf⟩ := List.map_eq_cons_iff.1 hf
  obtain ⟨f2, s3, rfl, h2, hf⟩ := List.map_eq_cons_iff.1 hf
  obtain ⟨f3, s4, rfl, h3, hf⟩ := List.map_eq_cons_iff.1 hf
  obtain ⟨f4, s5, rfl, h4, hf⟩ := List.map_eq_cons_iff.1 hf
  obtain ⟨f5, s6, rfl, h5, hf⟩ := List.map_eq_cons_iff.1 hf
  obtain ⟨f6, s7, rfl, h6, hf⟩ := List.map_eq_cons_iff.1 hf
  obtain ⟨f7, s8, rfl, h7, hf⟩ := List.map_eq_cons_iff.1 hf
  obtain ⟨f8, s9, rfl, h8, hf⟩ := List.map_eq_cons_iff.1 hf
  obtain ⟨f9, s10, rfl, h9, hf⟩ := List.map_eq_cons_iff.1 hf
  obtain rfl := List.map_eq_nil_iff.1 hf
  simp only [Prod.mk.injEq] at h0 h1 h2 h3 h4 h5 h6 h7 h8 h9
  refine eq_step w h0.2.2 (by rw [h0.1, h0.2.1]; exact part_int w _ _ _ rfl) (by rw [h0.1, h0.2.1]; exact part_int w _ _ _ rfl) (by rw [h0.1]; exact run_equalIn_int w _ _ _ _ _ _ Tryd.underlying3) ?_
  refine eq_step w h1.2.2 (by rw [h1.1, h1.2.1]; exact part_str w _ _ _ rfl) (by rw [h1.1, h1.2.1]; exact part_str w _ _ _ rfl) (by rw [h1.1]; exact eq_str w _ _) ?_
  refine eq_step w h2.2.2 (by rw [h2.1, h2.2.1]; exact part_str w _ _ _ rfl) (by rw [h2.1, h2.2.1]; exact part_str w _ _ _ rfl) (by rw [h2.1]; exact eq_str w _ _) ?_
  refine eq_step w h3.2.2 (by rw [h3.1, h3.2.1]; exact part_str w _ _ _ rfl) (by rw [h3.1, h3.2.1]; exact part_str w _ _ _ rfl) (by rw [h3.1]; exact eq_str w _ _) ?_
  refine eq_step w h4.2.2 (by rw [h4.1, h4.2.1]; exact part_str w _ _ _ rfl) (by rw [h4.1, h4.2.1]; exact part_str w _ _ _ rfl) (by rw [h4.1]; exact eq_str w _ _) ?_
  refine eq_step w h5.2.2 (by rw [h5.1, h5.2.1]; exact part_str w _ _ _ rfl) (by rw [h5.1, h5.2.1]; exact part_str w _ _ _ rfl) (by rw [h5.1]; exact eq_str w _ _) ?_
  refine eq_step w h6.2.2 (by rw [h6.1, h6.2.1]; exact part_int w _ _ _ rfl) (by rw [h6.1, h6.2.1]; exact part_int w _ _ _ rfl) (by rw [h6.1]; exact run_equalIn_int w _ _ _ _ _ _ Tryd.underlying3) ?_
  refine eq_step w h7.2.2 (by rw [h7.1, h7.2.1]; exact part_int w _ _ _ rfl) (by rw [h7.1, h7.2.1]; exact part_int w _ _ _ rfl) (by rw [h7.1]; exact run_equalIn_int w _ _ _ _ _ _ Tryd.underlying3) ?_
  refine eq_step w h8.2.2 (by rw [h8.1, h8.2.1]; exact part_int w _ _ _ rfl) (by rw [h8.1, h8.2.1]; exact part_int w _ _ _ rfl) (by rw [h8.1]; exact run_equalIn_int w _ _ _ _ _ _ Tryd.underlying3) ?_
  refine eq_step w h9.2.2 (by rw [h9.1, h9.2.1]; exact part_bool w _ _ _ rfl) (by rw [h9.1, h9.2.1]; exact part_bool w _ _ _ rfl) (by rw [h9.1]; exact run_equalIn_bool' w _ _ _ _ Tryd.underlying4) ?_
  rfl
/-- are records one? -/
def req (a b : Rec) : Bool := decide (a = b)
theorem req_fields (a b : Rec) : ((a.kind == b.kind) && (seq a.name b.name && (seq a.par b.par && (seq a.user b.user && (seq a.serv b.serv && (seq a.url b.url && ((a.made == b.made) && ((a.used == b.used) && ((a.uses == b.uses) && ((a.fresh == b.fresh) && true)))))))))) = req a b := by
  obtain ⟨k, n, p, u, sv, ur, m, us, ct, f⟩ := a
  obtain ⟨k', n', p', u', sv', ur', m', us', ct', f'⟩ := b
  unfold req seq
  rw [Bool.eq_iff_iff]
  simp
theorem rec_eql (a b : Rec) (w : World) : (binOp .eql 50 (.agg (rcells a)) (.agg (rcells b))).run Tryd.prog w = .ok (.bool (req a b)) w := by
  rw [run_eql_struct, run_equalIn_struct w 9999 50 _ _ Tryd.underlying50 (by kernel_rfl), rec_fields, req_fields]; rfl
theorem rec_neq (a b : Rec) (w : World) : (binOp .neq 50 (.agg (rcells a)) (.agg (rcells b))).run Tryd.prog w = .ok (.bool (!req a b)) w := by
  rw [run_neq_struct, run_equalIn_struct w 9999 50 _ _ Tryd.underlying50 (by kernel_rfl), rec_fields, req_fields]; rfl
theorem req_self (a : Rec) : req a a = true := by simp [req]

def nm7 : List UInt8 := Tk.nameI 1 (7#64).toNat
def rec7 : Rec := ⟨1, nm7, [], [117], [], [], 5, 5, 0, false⟩
theorem rec7_right : rightI rec7 = true := by decide +kernel
theorem rec7_enc : (encS rec7).length = 24 ∧ byteAt (encS rec7) 0 = 1 ∧ encE rec7 = 0 := by
  have hr := rec7_right
  unfold encS encE
  rw [hr]
  exact ⟨by decide +kernel, by decide +kernel, rfl⟩
theorem dec_enc {r : Rec} (h : rightI r = true) : decR r.name (encS r) = r ∧ decE r.name (encS r) = 0 := by
  have hd : dec r.name (encS r) = some r := (dec_iff _ _ _).2 ⟨h, rfl, by unfold encS; rw [h]; rfl⟩
  unfold decR decE
  rw [hd]; exact ⟨rfl, rfl⟩
theorem name_7 (w : World) :
    Calls Tryd.prog 17 #[.int .i64 1, .int .u64 7] w fun e w' => e = .returned (.tuple #[.string (str nm7), .int .i64 (Tk.errI 1)]) ∧ w = w' := refName_any 1 7#64 w
theorem encode_r (r : Rec) (hf : Fits r) (w : World) (hw : Pres w) :
    Calls Tryd.prog 31 #[.agg (rcells r)] w fun e w' => e = .returned (.tuple #[.string (str (encS r)), .int .i64 (encE r)]) ∧ Ext w w' := encode_any r hf w hw
theorem decode_r (name s : List UInt8) (hn : name.length ≤ 1000) (hs : s.length ≤ 1000) (w : World) (hw : Pres w) :
    Calls Tryd.prog 33 #[.string (str name), .string (str s)] w fun e w' => e = .returned (.tuple #[.agg (rcells (decR name s)), .int .i64 (decE name s)]) ∧ Ext w w' := decode_any name s hn hs w hw
theorem right_r (r : Rec) (hf : Fits r) (w : World) (hw : Pres w) :
    Calls Tryd.prog 35 #[.agg (rcells r)] w fun e w' => e = .returned (.bool (rightI r)) ∧ Ext w w' := right_any r hf w hw
theorem wpList_load_rowG {P : Program} {ops : Array Oper} {rest : List Oper} {o : Oper} {a : Act} {w : World} {Q : Exit → Act → World → Prop} (hw : Region.wanted o (yielded ops a.tmps) = true) (ty : TypeId) (x : Operand) (ho : o.op = .load ty x)
    (g : Nat) (hx : a.eval x = .pointer (some ⟨g, 0, none⟩)) (t : TypeId) (cs : Array Value) (fr : Nat × Nat) (d : TypeDesc) (hg : w.heap[g]? = some (.cells cs t fr))
    (hu : P.underlying ty = some d) (hd : (match d with | .struct _ | .array _ _ => true | _ => false) = true) (hi : (P.info? ty).map (·.size) = some cs.size)
    (h : wpList P ops Q rest (a.put o.dst (.agg cs)) w) : wpList P ops Q (o :: rest) a w :=
  wpList_step fun _ hK => by
    rw [if_pos hw]
    exact wp_load_row ty x ho g hx t cs fr d hg hu hd hi (hK _ _ h)
theorem info_rc (r : Rec) : (Tryd.prog.info? 50).map (·.size) = some (rcells r).size := info_rec
theorem rc_size (r : Rec) : zcells.size = (rcells r).size := rfl
theorem rec7_cells : (#[.int .i64 1, .string (str nm7), .string (str []), .string (str [117]), .string (str []), .string (str []), .int .i64 5, .int .i64 5, .int .i64 0, .bool false] : Array Value) = rcells rec7 := rfl
attribute [local irreducible] rcells cm isI Tk.pk Tk.pn Tk.pok rightI enc encS encE parI decR decE nm7 req
set_option maxRecDepth 20000 in
set_option maxHeartbeats 4000000 in
theorem awake13_any (w : World) (hw : Pres w) :
    Calls Tryd.prog 29 #[] w fun e w' => e = .returned (.bool true) ∧ Ext w w' := by
  have e0 := Ext.refl w
  obtain ⟨h1, h2, h3⟩ := rec7_enc
  have h4 : decR nm7 (encS rec7) = rec7 := (dec_enc rec7_right).1
  have h5 : decE nm7 (encS rec7) = 0 := (dec_enc rec7_right).2
  have hF : Fits rec7 := by unfold Fits; decide +kernel
  have hnl : nm7.length ≤ 1000 := by decide +kernel
  have hR := rec7_right
  have henc : ∀ W, Pres W → Calls Tryd.prog 31 #[.agg (rcells rec7)] W fun e w' => e = .returned (.tuple #[.string (str (encS rec7)), .int .i64 0]) ∧ Ext W w' := fun W h => by
    have := encode_r rec7 hF W h
    rw [h3] at this
    exact this
  have hdec : ∀ W, Pres W → Calls Tryd.prog 33 #[.string (str nm7), .string (str (encS rec7))] W fun e w' => e = .returned (.tuple #[.agg (rcells rec7), .int .i64 0]) ∧ Ext W w' := fun W h => by
    have := decode_r nm7 (encS rec7) hnl (by rw [h1]; decide) W h
    rw [h4, h5] at this
    exact this
  have hrt : ∀ W, Pres W → Calls Tryd.prog 35 #[.agg (rcells rec7)] W fun e w' => e = .returned (.bool true) ∧ Ext W w' := fun W h => by
    have := right_r rec7 hF W h
    rw [hR] at this
    exact this
  have hq : ∀ W, (binOp .eql 50 (.agg (rcells rec7)) (.agg (rcells rec7))).run Tryd.prog W = .ok (.bool true) W := fun W => by rw [rec_eql, req_self]
  obtain ⟨s7, hs7⟩ : ∃ s, s = encS rec7 := ⟨_, rfl⟩
  rw [← hs7] at h1 h2
  rw [← hs7] at henc hdec
  have hl7 : (s7.length : Int) = 24 := by omega
  have hb7 : ((byteAt s7 0).toNat : Int) = 1 := by rw [h2]; rfl
  have hi7 : (0 : Int) < (s7.length : Int) := by omega
  clear h1 h2 h3 h4 h5 hF hnl hR hs7
  go_enter Tryd.func29, Tryd.ntmps29
  go_upto_region 2 with (go_at_call 17; refine (name_7 _).mono ?_; rintro e w' ⟨rfl, rfl⟩)
  go_cut [3] (fun p wd => p = .pointer (some ⟨w.heap.size, 0, none⟩) ∧ wd.heap[w.heap.size]? = some (.cells (rcells rec7) 50 (0, 0)) ∧ Ext w wd)
  case first =>
    go_wp2
    go_meet
    case rel => exact ⟨rfl, by rw [rec7_cells]; exact heap_alloc_new w _, e0.alloc _⟩
  case rest =>
    obtain ⟨rfl, hg, e1⟩ := hcut
    go_upto_region 4 with (first
      | (refine wpList_load_row rfl 50 _ rfl w.heap.size rfl 50 (rcells rec7) (0, 0) _ hg Tryd.underlying50 rfl (info_rc _) ?_)
      | (go_at_call 31; refine (henc _ (hw.ext e1)).mono ?_; rintro e w2 ⟨rfl, h⟩; have e2 := e1.trans h; have hg2 := h.heap hg))
    go_cut [6, 7] (fun p e wd => ∃ g, p = .pointer (some ⟨g, 0, none⟩) ∧ e = .int .i64 0 ∧ wd.heap[w.heap.size]? = some (.cells (rcells rec7) 50 (0, 0)) ∧ wd.heap[g]? = some (.cells (rcells rec7) 50 (0, 0)) ∧ Ext w wd)
    case first =>
      go_wp2_with (first
        | (go_at_call 33; refine (hdec _ (hw.ext e2)).mono ?_; rintro e w3 ⟨rfl, h⟩; have e3 := e2.trans h; have hg3 := h.heap hg2)
        | (refine wpList_store_row rfl 50 _ _ rfl w3.heap.size (rcells rec7) rfl rfl 50 zcells (heap_alloc_new w3 _) (info_rc _) (rc_size _) (rcells_one _) ?_))
      go_meet
      case rel =>
        have hlt := (Array.getElem?_eq_some_iff.1 hg3).1
        exact ⟨_, rfl, rfl, (setRow_other _ _ _ _ (by omega)).trans (((Ext.refl w3).alloc _).heap hg3), setRow_heap _ _ zcells _ _ _ (heap_alloc_new w3 _), (e3.alloc _).setRow e3.size _⟩
    case rest =>
      obtain ⟨g, rfl, rfl, hg4, hg5, e4⟩ := hcut
      go_wp2_with (first
        | (refine wpList_load_rowG (by rfl) 50 _ rfl w.heap.size rfl 50 (rcells rec7) (0, 0) _ hg4 Tryd.underlying50 rfl (info_rc _) ?_)
        | (refine wpList_load_rowG (by rfl) 50 _ rfl g rfl 50 (rcells rec7) (0, 0) _ hg5 Tryd.underlying50 rfl (info_rc _) ?_)
        | (go_at_call 35; refine (hrt _ (hw.ext e4)).mono ?_; rintro e w5 ⟨rfl, h⟩; have e5 := e4.trans h))
      go_ret
      exact ⟨rfl, e5⟩

def fewI (r : Rec) : Bool := decide (r.name.length ≤ 60) && decide (r.par.length ≤ 60) && decide (r.user.length ≤ 120) && decide (r.serv.length ≤ 120) && decide (r.url.length ≤ 120)
theorem few_any (r : Rec) (w : World) :
    Calls Tryd.prog 30 #[.agg (rcells r)] w fun e w' => e = .returned (.bool (fewI r)) ∧ Ext w w' := by
  have e0 := Ext.refl w
  have hF : RowKit.Hid (fewI r = (decide (r.name.length ≤ 60) && decide (r.par.length ≤ 60) && decide (r.user.length ≤ 120) && decide (r.serv.length ≤ 120) && decide (r.url.length ≤ 120))) := Lib.hid rfl
  unfold rcells
  go_enter Tryd.func30, Tryd.ntmps30
  go_wp2
  all_goals
    go_ret
    refine ⟨?_, e0.alloc _⟩
    rw [hF.out]
    refine congrArg (fun b => Ending.returned (.bool b)) ?_
    rw [Bool.eq_iff_iff]
    simp <;> omega

end Go.Proofs.YtkpcdbalhpmpmaaDoor
