/- TreeDrops, walked. -/
import Derived.Test.YtmdepmohfnficaaDoorTrU
namespace Go.Proofs.YtmdepmohfnficaaDoor
set_option linter.unusedVariables false
set_option linter.unusedSimpArgs false
open Go.RowKit Rk Tr

namespace Tr
/-- those on whose path one lies; the others -/
def onPath (L : List Rec) (n : List UInt8) (r : Rec) : Bool := inL (path L r.name) n
def goneL (L : List Rec) (n : List UInt8) (l : List Rec) : List (List UInt8) := (l.filter (onPath L n)).map (·.name)
def staysL (L : List Rec) (n : List UInt8) (l : List Rec) : List Rec := l.filter fun r => !onPath L n r
theorem gone_yes {L l : List Rec} {n : List UInt8} {k : Nat} {x : Rec} (hx : l[k]? = some x) (h : onPath L n x = true) : goneL L n (l.take (k + 1)) = goneL L n (l.take k) ++ [x.name] ∧ staysL L n (l.take (k + 1)) = staysL L n (l.take k) := by
  unfold goneL staysL
  rw [List.take_add_one, hx, List.filter_append, List.filter_append, List.map_append]
  simp [h]
theorem gone_no {L l : List Rec} {n : List UInt8} {k : Nat} {x : Rec} (hx : l[k]? = some x) (h : onPath L n x = false) : goneL L n (l.take (k + 1)) = goneL L n (l.take k) ∧ staysL L n (l.take (k + 1)) = staysL L n (l.take k) ++ [x] := by
  unfold goneL staysL
  rw [List.take_add_one, hx, List.filter_append, List.filter_append, List.map_append]
  simp [h]
theorem gone_len (L l : List Rec) (n : List UInt8) (k : Nat) : (goneL L n (l.take k)).length ≤ k ∧ (staysL L n (l.take k)).length ≤ k := by
  unfold goneL staysL
  rw [List.length_map]
  have h1 := List.length_filter_le (onPath L n) (l.take k)
  have h2 := List.length_filter_le (fun r => !onPath L n r) (l.take k)
  rw [List.length_take] at h1 h2
  omega
theorem mem_gone {L : List Rec} (h : Ok L) {n x : List UInt8} : x ∈ goneL L n L ↔ x ∈ below L n := by
  unfold goneL onPath
  rw [List.mem_map, mem_below h]
  constructor
  · rintro ⟨r, hr, rfl⟩
    exact inL_iff.1 (List.mem_filter.1 hr).2
  · intro hx
    obtain ⟨r, hr, rfl⟩ := List.mem_map.1 (below_names h ((mem_below h).2 hx))
    exact ⟨r, List.mem_filter.2 ⟨hr, inL_iff.2 hx⟩, rfl⟩
theorem gone_nodup {L : List Rec} (h : Ok L) (n : List UInt8) : (goneL L n L).Nodup := h.nodup.sublist ((List.filter_sublist (l := L)).map _)
theorem gone_below {L : List Rec} (h : Ok L) (n : List UInt8) : (below L n).length = (goneL L n L).length :=
  Nat.le_antisymm (nodup_le (below_nodup h n) fun _ hx => (mem_gone h).2 hx) (nodup_le (gone_nodup h n) fun _ hx => (mem_gone h).1 hx)
theorem gone_in {L : List Rec} (h : Ok L) {n x : List UInt8} {k : Nat} (hx : (goneL L n L)[k]? = some x) : inL (below L n) x = true := inL_iff.2 ((mem_gone h).1 (List.mem_of_getElem? hx))
theorem drop_stays {L : List Rec} (h : Ok L) (n : List UInt8) : Tr.drop L n = staysL L n L := by
  unfold Tr.drop staysL onPath
  refine List.filter_congr fun r hr => ?_
  congr 1
  rw [Bool.eq_iff_iff, List.contains_iff_mem, inL_iff, mem_below h]
theorem below_head {L : List Rec} (h : Ok L) {k : Nat} {x : Rec} (hx : L[k]? = some x) : (below L x.name)[0]? = some x.name := by
  rw [below_step h (ix_at h.nodup hx)]; rfl
theorem drop_gone {L : List Rec} (h : Ok L) {k : Nat} {x : Rec} (hx : L[k]? = some x) : below (Tr.drop L x.name) x.name = [] := by
  apply below_none
  rw [ix_none]
  intro r hr e
  unfold Tr.drop at hr
  have := (List.mem_filter.1 hr).2
  rw [Bool.not_eq_true', ← Bool.not_eq_true, List.contains_iff_mem] at this
  exact this (by rw [e]; exact List.mem_of_getElem? (below_head h hx))
end Tr
theorem Own.type {E : TypeId} {w : World} {base : Nat} {v : Value} {l : List (List UInt8)} (h : Own sv E w base v l) {k : Nat} (hk : v.ownBlock = some k) : ∃ cur, w.heap[k]? = some (.cells cur E (0, 0)) := by
  obtain ⟨h1, h⟩ := h
  rcases h with ⟨rfl, hn⟩ | ⟨g, cap, cur, rfl, hb, hh, -⟩
  · simp [Value.ownBlock] at hk
  · simp [Value.ownBlock] at hk
    subst hk; exact ⟨cur, hh⟩
/-- with the record blocks from a place on -/
def RecF (w : World) (base k : Nat) : Prop := base ≤ k ∧ ∃ cur, w.heap[k]? = some (.cells cur 36 (0, 0))
theorem OwnR.tight {w : World} {base : Nat} {v : Value} {l : List Rec} (h : OwnR w (fun k => base ≤ k) v l) : OwnR w (RecF w base) v l := by
  obtain ⟨⟨⟨h1, h'⟩, h2⟩, hf⟩ := h
  refine ⟨⟨⟨h1, h'⟩, fun k hk => ⟨h2 k hk, ?_⟩⟩, hf⟩
  rcases h' with ⟨rfl, hn⟩ | ⟨g, cap, cur, rfl, hb, hh, -⟩
  · simp [Value.ownBlock] at hk
  · simp [Value.ownBlock] at hk
    subst hk; exact ⟨cur, hh⟩
/-- a record out of the middle of a row, written out -/
theorem wpList_load_recL {ops : Array Oper} {rest : List Oper} {o : Oper} {a : Act} {w : World} {Q : Exit → Act → World → Prop} (hw : Region.wanted o (yielded ops a.tmps) = true) (x : Operand) (ho : o.op = .load 36 x)
    (b i : Nat) (hx : a.eval x = .pointer (some ⟨b, i, none⟩)) (r : Rec) (hc : w.rangeAt b i (prow r)) (h : wpList Tryd.prog ops Q rest (a.put o.dst (.agg #[.int .i64 r.kind, .string (str r.name), .string (str r.par), .string (str r.user), .string (str r.serv), .string (str r.url), .int .i64 r.made, .int .i64 r.used, .int .i64 r.uses, .bool r.fresh])) w) : wpList Tryd.prog ops Q (o :: rest) a w :=
  wpList_load_rec hw x ho b i hx r hc (by rw [rc_lit]; exact h)
theorem str_rec : 9 ≠ 36 := by decide
attribute [local irreducible] rcells ocells fewI runL
set_option maxRecDepth 20000 in
set_option maxHeartbeats 4000000 in
theorem treeDrops_any (z : Int) (v1 : Value) (l1 : List Top) (which : UInt8) (w : World) (hw : Pres w) (h1 : TOps w v1 l1) :
    Calls Tryd.prog 7 #[.int .i64 z, v1, .int .u8 (which.toNat : Int)] w fun e w' => e = .returned (.bool true) ∧ Ext w w' := by
  have hwh := Lib.hid hw
  have h1h := Lib.hid h1
  obtain ⟨a1, c1, rfl, -⟩ := Rw.shape h1
  have hA := awake14_any w hw
  clear hw h1
  go_enter Tryd.func7, Tryd.ntmps7
  go_upto_region 2 with (go_at_call 20; refine hA.mono ?_; rintro e W1 ⟨rfl, e1⟩)
  have hf1 := fewT_any _ l1 W1 (h1h.out.ext e1)
  clear hA
  go_upto_region 3 with (go_at_call 21; refine hf1.mono ?_; rintro e W2 ⟨rfl, e2⟩)
  have e02 := e1.trans e2
  clear hf1 e1 e2
  cases k1 : fewT l1
  · go_wp2
    go_ret
    exact ⟨rfl, e02⟩
  have hT := walked_any z _ l1 W2 (h1h.out.ext e02) (hwh.out.ext e02)
  go_upto_region 6 with (go_at_call 22; refine hT.mono ?_; rintro e W4 ⟨p, rfl, t4⟩)
  have hSt := Lib.hid (St.run l1 (St.nil (roomN_le z)))
  obtain ⟨L, hL⟩ : ∃ L, L = runL (roomN z) [] l1 := ⟨_, rfl⟩
  rw [← hL] at t4 hSt
  generalize roomN z = room at *
  clear hL hT k1
  have hl := Lib.hid hSt.out.small
  have tp := t4.1.lt
  have e04 := e02.trans t4.2
  have hz2 := e02.size
  clear t4 e02
  have A1 := all_any tp (by have := hl.out; omega)
  go_upto_region 9 with (go_at_call 25; refine A1.mono ?_; rintro e W5 ⟨_, rfl, o5, ⟨a5, c5, rfl⟩, e5⟩)
  have e05 := e04.trans e5
  have tp5 := tp.ext e5
  have hz5 := e5.size
  by_cases hL0 : L = []
  · subst hL0
    have hd := drop_any nmA tp5 hSt.out.ok (by simp) (by rw [below_none rfl]; simp)
    rw [below_none rfl] at hd
    go_wp2_with (first
      | (go_at_call 33; (refine (nm_A _).mono ?_); rintro e w' ⟨rfl, rfl⟩)
      | (go_at_call 32; refine hd.mono ?_; rintro e w7 ⟨_, rfl, -, ⟨ax, cx, rfl⟩, -, g7⟩))
    go_ret
    exact ⟨rfl, e05.chg g7 fun k hk => by have := hk.1; omega⟩
  have hpos : 0 < L.length := List.length_pos_iff.2 hL0
  obtain ⟨a', cap', hq, -, hget⟩ := Rw.shape o5.recs
  cases hq
  have hgh := Lib.hid hget
  have hwt : which.toNat < 256 := which.toNat_lt
  obtain ⟨x, hx⟩ := some_at (l := L) (Nat.mod_lt which.toNat hpos)
  obtain ⟨g, o, cs, rfl, hr, rfl, -⟩ := hget _ x hx
  have n1 := hr 1 _ (prow_cells x).2.1
  have d0 : ((L.length : Int) == 0) = false := by rw [beq_eq_false_iff_ne]; omega
  have d1 : ¬ (L.length : Int) = 0 := by omega
  have w1 : IntKind.i64.wrap (which.toNat : Int) = (which.toNat : Int) := by rw [IntKind.wrap_i64]; omega
  have w2 : Int.tmod (which.toNat : Int) (L.length : Int) = ((which.toNat % L.length : Nat) : Int) := by rw [Int.ofNat_tmod]
  have w3 : IntKind.i64.wrap ((which.toNat % L.length : Nat) : Int) = ((which.toNat % L.length : Nat) : Int) := by have := Nat.mod_lt which.toNat hpos; have := hl.out; rw [IntKind.wrap_i64]; omega
  have i1 : ((which.toNat % L.length : Nat) : Int) < (L.length : Int) := by have := Nat.mod_lt which.toNat hpos; omega
  have hxh := Lib.hid hx
  have e05h := Lib.hid e05
  have tph := Lib.hid tp5
  have z5 := Lib.hid hz5
  clear A1 e04 e5 o5 hget hr hx tp tp5 e05 hz5 hpos
  go_upto_region 13 with fail
  clear n1 d0 d1 w1 w2 w3 i1
  generalize hk0 : which.toNat % L.length = k0 at *
  clear hk0
  go_wp2
  go_loopw [12, 13, 14] (fun gv uv i wr => ∃ k : Nat, k ≤ L.length ∧ i = .int .i64 (k : Int) ∧ (∃ a c, gv = .slice a (goneL L x.name (L.take k)).length c) ∧ (∃ a c, uv = .slice a (staysL L x.name (L.take k)).length c) ∧ RowKit.Hid (Own sv 9 wr W5.heap.size gv (goneL L x.name (L.take k))) ∧ RowKit.Hid (OwnR wr (fun k => W5.heap.size ≤ k) uv (staysL L x.name (L.take k))) ∧ Ext W5 wr) (fun _ _ i _ => L.length - (intOf i).toNat)
  case atStart => exact ⟨0, Nat.zero_le _, rfl, ⟨none, 0, rfl⟩, ⟨none, 0, rfl⟩, Lib.hid (Own.nil _ _ _), Lib.hid (OwnR.nil _ _), Ext.refl _⟩
  case round =>
    obtain ⟨k, hk, rfl, ⟨ag, cg, rfl⟩, ⟨au, cu, rfl⟩, og, ou, ek⟩ := hrel
    by_cases hlt : k < L.length
    · obtain ⟨y, hy⟩ := some_at hlt
      obtain ⟨_, _, _, hq2, hry, rfl, hfy⟩ := hgh.out k y hy
      cases hq2
      have hki : (k : Int) < (L.length : Int) := by omega
      have hw : IntKind.i64.wrap ((k : Int) + 1) = (k : Int) + 1 := by have := hl.out; rw [IntKind.wrap_i64]; omega
      have hP := path_any y.name (tph.out.ext ek) hSt.out.ok (by have := hl.out; omega)
      have y1 := ek.cell (hry 1 _ (prow_cells y).2.1)
      have hgl := gone_len L L x.name k
      have hyes := Lib.hid (gone_yes (L := L) (n := x.name) hy)
      have hno := Lib.hid (gone_no (L := L) (n := x.name) hy)
      have hin : inL (path L y.name) x.name = onPath L x.name y := rfl
      have hryh := Lib.hid hry
      clear hry hy
      go_upto_region 18 with (first
        | (go_at_call 35; refine hP.mono ?_; rintro e W6 ⟨_, rfl, o6, e6⟩; obtain ⟨a6, c6, rfl⟩ := o6.shapeN; have hIn := in_any _ _ x.name W6 o6.sl; rw [hin] at hIn)
        | (go_at_call 34; refine hIn.mono ?_; rintro e W7 ⟨rfl, rfl⟩))
      have e56 := ek.trans e6
      have og6 := Lib.hid (og.out.ext e6)
      have ou6 := Lib.hid (ou.out.ext e6)
      have hz6 := e56.size
      clear hP hIn o6 e6 ek og ou y1
      cases hb : onPath L x.name y
      · obtain ⟨q1, q2⟩ := hno.out hb
        have q1h := Lib.hid q1
        have q2h := Lib.hid q2
        have hr2 : W6.rangeAt g (o + k * 10) (prow y) := fun i u hu => e56.cell (hryh.out i u hu)
        clear q1 q2 hyes hno
        go_wp2_with (first
          | (refine wpList_load_recL (by rfl) _ rfl g (o + k * 10) rfl y hr2 ?_)
          | (refine wpList_appendR (by rfl) _ _ rfl (RecF (W6.alloc (.cells #[.int .i64 y.kind, .string (str y.name), .string (str y.par), .string (str y.user), .string (str y.serv), .string (str y.url), .int .i64 y.made, .int .i64 y.used, .int .i64 y.uses, .bool y.fresh] 36)) W5.heap.size) _ (staysL L x.name (L.take k)) rfl (OwnR.tight (ou6.out.ext ((Ext.refl W6).alloc _))) _ [y] rfl (Recs.one rfl (rc_lit y).symm hfy) (by have := hl.out; simp only [List.length_singleton]; omega) ?_; intro v8 w8 o8 c8; obtain ⟨a8, c8', rfl⟩ := o8.shape))
        rw [List.length_append, List.length_singleton] at o8
        have o8h := Lib.hid (o8.mono (G := fun k => W5.heap.size ≤ k) fun k hk => hk.elim (fun h => h.1) fun h => Nat.le_trans (Nat.le_trans hz6 ((Ext.refl W6).alloc _).size) h)
        have og8 := Lib.hid ((og6.out.ext ((Ext.refl W6).alloc (.cells #[.int .i64 y.kind, .string (str y.name), .string (str y.par), .string (str y.user), .string (str y.serv), .string (str y.url), .int .i64 y.made, .int .i64 y.used, .int .i64 y.uses, .bool y.fresh] 36))).chgB c8 fun k hk h => by
          obtain ⟨c1, t1⟩ := (og6.out.ext ((Ext.refl W6).alloc (.cells #[.int .i64 y.kind, .string (str y.name), .string (str y.par), .string (str y.user), .string (str y.serv), .string (str y.url), .int .i64 y.made, .int .i64 y.used, .int .i64 y.uses, .bool y.fresh] 36))).type hk
          obtain ⟨-, c2, t2⟩ := h
          rw [t1] at t2
          exact str_rec (by injection (Option.some.inj t2)))
        have e8 := ((e56.alloc (.cells #[.int .i64 y.kind, .string (str y.name), .string (str y.par), .string (str y.user), .string (str y.serv), .string (str y.url), .int .i64 y.made, .int .i64 y.used, .int .i64 y.uses, .bool y.fresh] 36)).chg c8 fun k hk => hk.1)
        clear c8 o8 og6 ou6 hr2
        go_roundw
        case rel => exact ⟨k + 1, by omega, by go_num, ⟨_, _, by rw [q1h.out]⟩, ⟨a8, c8', by rw [q2h.out, List.length_append]; rfl⟩, Lib.hid (by rw [q1h.out]; exact og8.out), Lib.hid (by rw [q2h.out]; exact o8h.out), e8⟩
        case measure => simp [intOf]; omega
      · obtain ⟨q1, q2⟩ := hyes.out hb
        have q1h := Lib.hid q1
        have q2h := Lib.hid q2
        have y2 := e56.cell (hryh.out 1 _ (prow_cells y).2.1)
        clear q1 q2 hyes hno
        go_wp2_with (refine wpList_appendS (enc := sv) Tryd.underlying39 info_strS rfl (fun _ => rfl) rfl _ _ rfl W5.heap.size (.slice ag (goneL L x.name (L.take k)).length cg) (goneL L x.name (L.take k)) rfl (og6.out.alloc _) _ [y.name] rfl (Sl.lit rfl rfl rfl (by decide) (by decide)) (by have := hl.out; simp only [List.length_singleton]; omega) (by have := hl.out; simp only [List.length_singleton]; omega) (Nat.le_trans hz6 ((Ext.refl W6).alloc _).size) ?_; intro v8 w8 o8 g8; obtain ⟨a8, c8', rfl⟩ := o8.shapeN)
        rw [List.length_append, List.length_singleton] at o8
        have o8h := Lib.hid o8
        have c8 := (Chg.refl (fun q => (Value.slice ag (goneL L x.name (L.take k)).length cg).ownBlock = some q) (W6.alloc (.cells #[.string (str y.name)] 9))).grown g8 fun q h _ => h
        have ou8 := Lib.hid ((ou6.out.ext ((Ext.refl W6).alloc (.cells #[.string (str y.name)] 9))).chg c8 fun q cur hq _ h => by
          obtain ⟨c1, t1⟩ := (og6.out.ext ((Ext.refl W6).alloc (.cells #[.string (str y.name)] 9))).type h
          rw [t1] at hq
          exact str_rec (by injection (Option.some.inj hq)))
        have e8 := (e56.alloc (.cells #[.string (str y.name)] 9)).grown g8 fun q hq => og6.out.lt q hq
        clear c8 o8 og6 ou6 g8 y2
        go_roundw
        case rel => exact ⟨k + 1, by omega, by go_num, ⟨a8, c8', by rw [q1h.out, List.length_append]; rfl⟩, ⟨_, _, by rw [q2h.out]⟩, Lib.hid (by rw [q1h.out]; exact o8h.out), Lib.hid (by rw [q2h.out]; exact ou8.out), e8⟩
        case measure => simp [intOf]; omega
    · obtain rfl : k = L.length := by omega
      rw [List.take_length] at *
      have tp6 := tph.out.ext ek
      have hd := drop_any x.name tp6 hSt.out.ok (by have := hl.out; omega) (by have := hSt.out.bel x.name; omega)
      have ogl := og.out.lt
      have hzk := ek.size
      obtain ⟨M, hM⟩ : ∃ M, M = (goneL L x.name L).length := ⟨_, rfl⟩
      have hMb : (below L x.name).length = M := (gone_below hSt.out.ok x.name).trans hM.symm
      have hM0 : M ≤ 64 := by rw [← hMb]; exact hSt.out.bel _
      have hM1 : (0 : Int) < (M : Int) := by
        have := (List.getElem?_eq_some_iff.1 (below_head hSt.out.ok hxh.out)).1
        omega
      rw [hMb] at hd
      rw [← hM]
      have hMh := Lib.hid hM
      have hMbh := Lib.hid hMb
      have hzw := Lib.hid (e05h.out.trans ek).size
      clear hM hMb
      go_upto_region 22 with (go_at_call 32; refine hd.mono ?_; rintro e W7 ⟨_, rfl, o7, ⟨a7, c7, rfl⟩, t7, g7⟩)
      have og7 := (og.out.chgB g7 fun k hk h => by have := ogl k hk; have := h.2; have := z5.out; omega).sl
      have ou7 := Lib.hid (ou.out.chg g7 fun q cur _ h h' => by have := h'.2; have := z5.out; omega)
      have e57 := ek.chg g7
      have e07 := Lib.hid ((e05h.out.trans ek).chg g7 fun q h => by have := h.1; omega)
      have hzr := g7.size
      obtain ⟨_, _, hq7, s7⟩ := o7.sl
      rw [hMbh.out] at hq7
      cases hq7
      obtain ⟨g9, o9, rfl, p0⟩ := s7.cells 0 x.name (below_head hSt.out.ok hxh.out)
      unfold sv at p0
      rw [Nat.add_zero] at p0
      have hss := seq_self x.name
      have s7h := Lib.hid o7.sl
      obtain ⟨_, _, hq8, s8⟩ := og7
      rw [← hMh.out] at hq8
      cases hq8
      have s8h := Lib.hid s8.cells
      have t7h := Lib.hid t7
      clear hd og ou ogl o7 s7 s8 t7 g7 ek tp6 hgh tph e57 hzk
      go_wp2
      go_loop [17] (fun i => ∃ k : Nat, k ≤ M ∧ i = .int .i64 (k : Int)) (fun i => M - (intOf i).toNat)
      case atStart => exact ⟨0, Nat.zero_le _, rfl⟩
      case round =>
        obtain ⟨k, hk, rfl⟩ := hrel
        clear p0
        by_cases hlt : k < M
        · obtain ⟨y, hy⟩ := some_at (l := goneL L x.name L) (by rw [← hMh.out]; exact hlt : k < _)
          have hin := in_any _ _ y W7 s7h.out
          rw [gone_in hSt.out.ok hy] at hin
          obtain ⟨g8, o8, rfl, c8⟩ := s8h.out k y hy
          unfold sv at c8
          have hki : (k : Int) < (M : Int) := by omega
          have hw : IntKind.i64.wrap ((k : Int) + 1) = (k : Int) + 1 := by rw [IntKind.wrap_i64]; omega
          clear hy
          go_wp2_with (go_at_call 34; refine hin.mono ?_; rintro e W8 ⟨rfl, rfl⟩)
          go_round
          case rel => exact ⟨k + 1, by omega, by go_num⟩
          case measure => simp [intOf]; omega
        · obtain rfl : k = M := by omega
          have hA2 := all_any t7h.out (by have := drop_len L x.name; have := hl.out; omega)
          rw [drop_stays hSt.out.ok] at hA2
          have hD2 := Lib.hid (fun W (e : Ext W7 W) => drop_any x.name (t7h.out.ext e) (hSt.out.ok.drop x.name) (by have := drop_len L x.name; have := hl.out; omega) (by rw [drop_gone hSt.out.ok hxh.out]; simp))
          rw [drop_gone hSt.out.ok hxh.out] at hD2
          go_wp2_with (first
            | (go_at_call 25; refine hA2.mono ?_; rintro e W8 ⟨_, rfl, o8, ⟨a8, c8, rfl⟩, e8⟩; have hR := records_same _ _ _ W8 o8.recs (ou7.out.ext e8).recs)
            | (go_at_call 24; refine hR.mono ?_; rintro e W9 ⟨rfl, e9⟩; have hD3 := hD2.out W9 (e8.trans e9))
            | (go_at_call 32; refine hD3.mono ?_; rintro e W10 ⟨_, rfl, -, ⟨a10, c10, rfl⟩, -, g10⟩))
          go_ret
          exact ⟨rfl, ((e07.out.trans e8).trans e9).chg g10 fun q h => by have := hzw.out; omega⟩
end Go.Proofs.YtmdepmohfnficaaDoor
