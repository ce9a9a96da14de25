/- What is done to a tree, one of them; all of them behind New. -/
import Derived.Test.YtmdepmohfnficaaDoorTrN
import Derived.Test.YtmdepmohfnficaaDoorTrP
namespace Go.Proofs.YtmdepmohfnficaaDoor
open Go.RowKit Rk Tr

def ocells (x : Top) : Array Value := (orow x).toArray
theorem ocells_lit (x : Top) : ocells x = #[.int .i64 x.what, .int .i64 x.r.kind, .string (str x.r.name), .string (str x.r.par), .string (str x.r.user), .string (str x.r.serv), .string (str x.r.url), .int .i64 x.r.made, .int .i64 x.r.used, .int .i64 x.r.uses, .bool x.r.fresh] := rfl
theorem oc_cells (x : Top) : (ocells x)[0]? = some (.int .i64 x.what) ∧ (ocells x)[2]? = some (.string (str x.r.name)) := ⟨rfl, rfl⟩
theorem oc_rec {w : World} {g : Nat} {x : Top} {T : TypeId} {fr : Nat × Nat} (h : w.heap[g]? = some (.cells (ocells x) T fr)) : w.rangeAt g 1 (prow x.r) := fun i u hu => by
  rw [cell_of_row _ _ _ _ _ _ h]
  have : (ocells x)[1 + i]? = (orow x)[i + 1]? := by unfold ocells; rw [List.getElem?_toArray, Nat.add_comm]
  rw [this]
  exact hu
/-- an Op out of the middle of a row -/
theorem info_op : (Tryd.prog.info? 52).map (·.size) = some 11 := by kernel_rfl
theorem wpList_load_top {ops : Array Oper} {rest : List Oper} {o : Oper} {a : Act} {w : World} {Q : Exit → Act → World → Prop} (hw : Region.wanted o (yielded ops a.tmps) = true) (x : Operand) (ho : o.op = .load 52 x)
    (b i : Nat) (hx : a.eval x = .pointer (some ⟨b, i, none⟩)) (r : Top) (hc : w.rangeAt b i (orow r)) (h : wpList Tryd.prog ops Q rest (a.put o.dst (.agg (ocells r))) w) : wpList Tryd.prog ops Q (o :: rest) a w :=
  wpList_step fun _ hK => by
    rw [if_pos hw]
    exact wp_load_mid 52 x ho b i hx (orow r) _ hc Tryd.underlying52 rfl info_op (hK _ _ h)
/-- a tree in blocks made since w0 -/
def TrB (w0 w : World) (p room : Nat) (l : List Rec) : Prop := TrM 96 w (fun k => w0.heap.size ≤ k) p room l ∧ Ext w0 w
theorem TrB.ext {w0 w w' : World} {p room : Nat} {l : List Rec} (h : TrB w0 w p room l) (e : Ext w w') : TrB w0 w' p room l := ⟨h.1.ext e, h.2.trans e⟩
theorem TrB.chg {w0 w w' : World} {p room : Nat} {l l' : List Rec} (h : TrB w0 w p room l) (k : TrM 96 w' (fun k => w0.heap.size ≤ k ∨ w.heap.size ≤ k) p room l') (c : Chg (fun k => w0.heap.size ≤ k) w w') : TrB w0 w' p room l' :=
  ⟨k.mono fun j hj => hj.elim id fun h' => Nat.le_trans h.2.size h', h.2.chg c fun _ h => h⟩
attribute [local irreducible] rcells ocells fewI
set_option maxRecDepth 20000 in
set_option maxHeartbeats 1000000 in
theorem do_any {F : Nat → Prop} {p room : Nat} {l : List Rec} (o : Top) {w : World} (h : TrM 96 w F p room l) (hs : St room l) (hf : Fits o.r) (hw : Pres w) :
    Calls Tryd.prog 26 #[.pointer (some ⟨p, 0, none⟩), .agg (ocells o)] w fun e w' => ∃ u, e = .returned (.tuple #[.int .i64 (doE room l o), u]) ∧ OwnO sv 9 w' (fun k => w.heap.size ≤ k) u (doX l o) ∧ (∃ a c, u = .slice a (doX l o).length c) ∧ TrM 96 w' (fun k => F k ∨ w.heap.size ≤ k) p room (doL room l o) ∧ Chg F w w' := by
  have e1 := (Ext.refl w).alloc (.cells (ocells o) 52)
  have hb := heap_alloc_new w (.cells (ocells o) 52)
  have c0 := cell_at hb 0 (oc_cells o).1
  have hr := oc_rec hb
  have hs1 := alloc_size w (.cells (ocells o) 52)
  have ht := h.ext e1
  have hp1 := hw.ext e1
  have hsm := hs.small
  have hbl := hs.bel o.r.name
  have hE : RowKit.Hid (doE room l o = if o.what = 1 then addE room l o.r else if o.what = 2 then putE l o.r else 0) := Lib.hid rfl
  have hL : RowKit.Hid (doL room l o = if o.what = 1 then addL room l o.r else if o.what = 2 then putL l o.r else if o.what = 3 then Tr.drop l o.r.name else l) := Lib.hid rfl
  have hX : RowKit.Hid (doX l o = if o.what = 3 then below l o.r.name else []) := Lib.hid rfl
  have cn := cell_at hb 2 (oc_cells o).2
  obtain ⟨n, r⟩ := o
  simp only at hE hL hX c0 cn hr hf hbl ⊢
  have hA := add_any r ht hf hp1 (by omega)
  have hP := put_any r ht hf hp1
  have hD := drop_any r.name ht hs.ok (by omega) (by omega)
  generalize ocells ⟨n, r⟩ = oc at *
  generalize hEn : doE room l ⟨n, r⟩ = E1 at *
  generalize hLn : doL room l ⟨n, r⟩ = L1 at *
  generalize hXn : doX l ⟨n, r⟩ = X1 at *
  have hsz : w.heap.size ≤ (w.alloc (.cells oc 52)).heap.size := e1.size
  have e1h := Lib.hid e1
  have hth := Lib.hid ht
  clear hEn hLn hXn hb e1 ht h hs1 hs hsm hbl hf hw hp1
  go_enter Tryd.func26, Tryd.ntmps26
  by_cases q1 : n = 1
  · rw [if_pos q1] at hE hL
    rw [if_neg (by omega)] at hX
    subst q1
    go_wp2_with (first
      | (refine wpList_load_rec (by rfl) _ rfl w.heap.size 1 rfl r hr ?_)
      | (go_at_call 57; refine hA.mono ?_; rintro e w1 ⟨rfl, h1, g1⟩))
    go_ret2
    exact ⟨_, by rw [hE.out]; rfl, by rw [hX.out]; exact .inl ⟨rfl, rfl⟩, ⟨none, 0, by rw [hX.out]; rfl⟩, by rw [hL.out]; exact h1.mono fun k hk => hk.imp id (Nat.le_trans hsz), (Chg.of_ext e1h.out).trans g1⟩
  · rw [if_neg q1] at hE hL
    have p1 : (n == 1) = false := by rw [beq_eq_false_iff_ne]; exact q1
    by_cases q2 : n = 2
    · rw [if_pos q2] at hE hL
      rw [if_neg (by omega)] at hX
      subst q2
      go_wp2_with (first
        | (refine wpList_load_rec (by rfl) _ rfl w.heap.size 1 rfl r hr ?_)
        | (go_at_call 63; refine hP.mono ?_; rintro e w1 ⟨rfl, h1, g1⟩))
      go_ret2
      exact ⟨_, by rw [hE.out]; rfl, by rw [hX.out]; exact .inl ⟨rfl, rfl⟩, ⟨none, 0, by rw [hX.out]; rfl⟩, by rw [hL.out]; exact h1.mono fun k hk => hk.imp id (Nat.le_trans hsz), (Chg.of_ext e1h.out).trans g1⟩
    · rw [if_neg q2] at hE hL
      have p2 : (n == 2) = false := by rw [beq_eq_false_iff_ne]; exact q2
      by_cases q3 : n = 3
      · rw [if_pos q3] at hL hX
        subst q3
        go_wp2_with (go_at_call 32; refine hD.mono ?_; rintro e w1 ⟨u, rfl, h0, ⟨a, c, rfl⟩, h1, g1⟩)
        go_ret2
        exact ⟨_, by rw [hE.out]; rfl, by rw [hX.out]; exact h0.mono fun k hk => Nat.le_trans hsz hk, ⟨a, c, by rw [hX.out]; rfl⟩, by rw [hL.out]; exact h1.mono fun k hk => hk.imp id (Nat.le_trans hsz), (Chg.of_ext e1h.out).trans g1⟩
      · rw [if_neg q3] at hL hX
        have p3 : (n == 3) = false := by rw [beq_eq_false_iff_ne]; exact q3
        go_wp2
        go_ret2
        exact ⟨_, by rw [hE.out]; rfl, by rw [hX.out]; exact .inl ⟨rfl, rfl⟩, ⟨none, 0, by rw [hX.out]; rfl⟩, by rw [hL.out]; exact hth.out.mono fun k hk => .inl hk, Chg.of_ext e1h.out⟩
set_option maxRecDepth 20000 in
set_option maxHeartbeats 1000000 in
theorem walked_any (z : Int) (v : Value) (l : List Top) (w : World) (h : TOps w v l) (hw : Pres w) :
    Calls Tryd.prog 22 #[.int .i64 z, v] w fun e w' => ∃ p, e = .returned (.pointer (some ⟨p, 0, none⟩)) ∧ TrB w w' p (roomN z) (runL (roomN z) [] l) := by
  obtain ⟨a, cap, rfl, hlm, hget⟩ := Rw.shape h
  clear h
  have e0 := Ext.refl w
  have hgh := Lib.hid hget
  have hwh := Lib.hid hw
  have hn := new_any z w
  clear hget hw
  go_enter Tryd.func22, Tryd.ntmps22
  go_upto_region 2 with (go_at_call 36; refine hn.mono ?_; rintro e w1 ⟨_, rfl, rfl, h1, e1⟩)
  have hb : RowKit.Hid (TrB w w1 w.heap.size (roomN z) (runL (roomN z) [] (l.take 0))) := Lib.hid ⟨h1.mono fun k hk => by omega, e1⟩
  have hro := Lib.hid (roomN_le z)
  generalize hroom : roomN z = room at hb hro
  clear h1 e1 e0 hn
  go_wp2
  go_loopw [6] (fun i wr => ∃ k : Nat, k ≤ l.length ∧ i = .int .i64 (k : Int) ∧ RowKit.Hid (TrB w wr w.heap.size room (runL room [] (l.take k)))) (fun i _ => l.length - (intOf i).toNat)
  case atStart => exact ⟨0, Nat.zero_le _, rfl, hb⟩
  case round =>
    obtain ⟨k, hk, rfl, ht⟩ := hrel
    by_cases hlt : k < l.length
    · obtain ⟨x, hx⟩ := some_at hlt
      obtain ⟨g, o, cs, rfl, hr, rfl, hf⟩ := hgh.out k x hx
      have hki : (k : Int) < (l.length : Int) := by omega
      have hw : IntKind.i64.wrap ((k : Int) + 1) = (k : Int) + 1 := by rw [IntKind.wrap_i64]; omega
      have hr2 : wr.rangeAt g (o + k * 11) (orow x) := fun i u hu => ht.out.2.cell (hr i u hu)
      have hd := do_any x ht.out.1 (St.run (l.take k) (St.nil hro.out)) hf (hwh.out.ext ht.out.2)
      have hst := Lib.hid (runL_step room hx [])
      clear hr hx hf
      go_wp2_with (first
        | (refine wpList_load_top (by rfl) _ rfl g (o + k * 11) rfl x hr2 ?_)
        | (go_at_call 26; refine hd.mono ?_; rintro e w2 ⟨u, rfl, -, ⟨a2, c2, rfl⟩, h2, g2⟩))
      go_roundw
      case rel => exact ⟨k + 1, by omega, by go_num, Lib.hid (by rw [hst.out]; exact ht.out.chg h2 g2)⟩
      case measure => simp [intOf]; omega
    · obtain rfl : k = l.length := by omega
      have ht2 := ht.out
      rw [List.take_length] at ht2
      have hth := Lib.hid ht2
      clear ht ht2
      go_wp2
      go_ret
      exact ⟨_, rfl, by rw [hroom]; exact hth.out⟩
end Go.Proofs.YtmdepmohfnficaaDoor
