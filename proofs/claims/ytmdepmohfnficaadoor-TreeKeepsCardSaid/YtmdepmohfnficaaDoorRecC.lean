/- Records as bytes: the program's Encode. -/
import Derived.Test.YtmdepmohfnficaaDoorRecB
import Derived.Deep.RegionHeld3
import Derived.Deep.CutBlock
import Derived.Deep.RegionLawGrows
import Derived.Lib.AppendStr
namespace Go.Proofs.YtmdepmohfnficaaDoor
set_option linter.unusedVariables false
set_option linter.unusedSimpArgs false
open Go.RowKit Rk

theorem OwnB.lit {w : World} {C : Array Value} {g n base : Nat} {l : List UInt8} (hg : g = w.heap.size) (hC : C.toList = l.map u8v) (hn : n = l.length) (hm : n ≤ maxLen) (hb : base ≤ w.heap.size) :
    OwnB (w.alloc (.cells C 5)) base (.slice (some ⟨g, 0, none⟩) n n) l := by
  subst hg hn
  have hs : C.size = l.length := by rw [← Array.length_toList, hC, List.length_map]
  have := World.ownsRow_lit (base := base) (e := 5) (size := 1) w C l.length hb hm (by omega)
  rwa [hC] at this
/-- 'append(s, x...)' as a step of a region that draws its order -/
theorem step_appendB {ops : Array Oper} {o : Oper} {a : Act} {w : World} {K : Act → World → Prop} {Q : Exit → Act → World → Prop} {E : Prop} (hgd : o.guard = none) (s x : Operand)
    (ho : o.op = .call { callee := .builtin .append, args := #[s, x], argTypes := #[120, 120] })
    (base : Nat) (v : Value) (l : List UInt8) (hs : a.eval s = v) (hown : OwnB w base v l) (u : Value) (m : List UInt8) (hx : a.eval x = u) (hb : Bytes w u m)
    (hsz : l.length + m.length ≤ 140737488355328) (hbase : base ≤ w.heap.size)
    (h : ∀ v' w', OwnB w' base v' (l ++ m) → w.grownBy w' v.ownBlock → K (a.put o.dst v') w') :
    if Region.wanted o (yielded ops a.tmps) = true then Oper.wp Tryd.prog o a w K Q else E := by
  have hw : Region.wanted o (yielded ops a.tmps) = true := by simp [Region.wanted, hgd]
  rw [if_pos hw]
  exact wp_appendB s x ho base v l hs hown u m hx hb hsz hbase h
theorem OwnB.down {w : World} {base base' : Nat} {v : Value} {l : List UInt8} (h : OwnB w base v l) (hb : base' ≤ base) : OwnB w base' v l := by
  obtain ⟨h1, h⟩ := h
  refine ⟨h1, ?_⟩
  rcases h with h | ⟨g, cap, cur, e, hg, r⟩
  · exact .inl h
  · exact .inr ⟨g, cap, cur, e, by omega, r⟩
/-- 'append(s, x...)', s as long as its row: a new row -/
theorem step_appendG {ops : Array Oper} {o : Oper} {a : Act} {w : World} {K : Act → World → Prop} {Q : Exit → Act → World → Prop} {E : Prop} (hgd : o.guard = none) (s x : Operand)
    (ho : o.op = .call { callee := .builtin .append, args := #[s, x], argTypes := #[120, 120] })
    (g n : Nat) (l : List UInt8) (hs : a.eval s = .slice (some ⟨g, 0, none⟩) n n) (hown : Bytes w (.slice (some ⟨g, 0, none⟩) n n) l) (u : Value) (m : List UInt8) (hx : a.eval x = u) (hb : Bytes w u m) (hm : 0 < m.length)
    (hsz : l.length + m.length ≤ 140737488355328)
    (h : ∀ v' w', OwnB w' w.heap.size v' (l ++ m) → Ext w w' → K (a.put o.dst v') w') :
    if Region.wanted o (yielded ops a.tmps) = true then Oper.wp Tryd.prog o a w K Q else E := by
  obtain ⟨i, hi, hz0, hz1, hz2⟩ := info_parts info8
  obtain ⟨ax, cx, rfl, hle, hcm, hnone, hcells⟩ := hb
  obtain ⟨sa, cl, e, hls⟩ := hown
  simp only [Value.slice.injEq] at e
  obtain ⟨rfl, rfl, rfl⟩ := e
  cases ax with
  | none => have := hnone rfl; omega
  | some ad =>
    refine step_append_grows hgd s x 120 ho 5 i (.int .u8 0) 1 1 Tryd.underlying120 hi hz0 hz1 hz2 rfl (by decide) (some ⟨g, 0, none⟩) l.length l.length (l.map u8v) hs (fun h => by cases h) (by simp) ?_ ad m.length cx (m.map u8v) hx (by simp) ?_ ?_ (by omega) (by unfold maxLen; omega) (by omega) ?_
    · intro b hb j u hu
      cases hb
      obtain ⟨hj, rfl⟩ := List.getElem?_eq_some_iff.1 hu
      simp only [List.length_map] at hj
      obtain ⟨g', o', e, hc⟩ := hls.cells j hj
      cases e
      rw [Addr.add_lit, hc]; simp [u8v]
    · intro j u hu
      obtain ⟨hj, rfl⟩ := List.getElem?_eq_some_iff.1 hu
      simp only [List.length_map] at hj
      obtain ⟨g', o', e, hc⟩ := hcells j hj
      cases e
      rw [Addr.add_lit, hc]; simp [u8v]
    · intro u hu
      obtain ⟨c, _, rfl⟩ := List.mem_map.1 hu
      rfl
    · intro v' w' h1 h2
      refine h v' w' (by unfold OwnB; rw [List.length_append, List.map_append]; exact h1) ((Ext.refl w).grown h2 fun k hk => by cases hk)
/-- 'append(s, x...)', x a text -/
theorem wpList_appendT {ops : Array Oper} {rest : List Oper} {o : Oper} {a : Act} {w : World} {Q : Exit → Act → World → Prop} (hgd : o.guard = none) (s x : Operand)
    (ho : o.op = .call { callee := .builtin .append, args := #[s, x], argTypes := #[120, 9] })
    (base : Nat) (v : Value) (l : List UInt8) (hs : a.eval s = v) (hown : OwnB w base v l) (m : List UInt8) (hx : a.eval x = .string (str m))
    (hsz : l.length + m.length ≤ 140737488355328) (hbase : base ≤ w.heap.size)
    (h : ∀ v' w', OwnB w' base v' (l ++ m) → w.grownBy w' v.ownBlock → wpList Tryd.prog ops Q rest (a.put o.dst v') w') : wpList Tryd.prog ops Q (o :: rest) a w := by
  obtain ⟨i, hi, hz0, hz1, hz2⟩ := info_parts info8
  refine Lib.wpList_append_own_string w hgd s x 120 9 ho base 5 i Tryd.underlying120 Tryd.underlying9 hi hz0 hz1 hz2 v l.length (l.map u8v) hs hown (str m) hx (by rw [str_size]; unfold maxLen; omega) (by rw [str_size]; exact hsz) hbase ?_
  intro v' w' g1 g2 _
  refine h v' w' ?_ g2
  unfold OwnB
  rw [List.length_append, List.map_append]
  rw [str_size] at g1
  exact g1

/-- a block of another kind stays when the call's own bytes grow -/
theorem OwnB.apart {w w' : World} {base : Nat} {v : Value} {l : List UInt8} (h : OwnB w base v l) {gl : Nat} {C : Array Value} {E : TypeId} {fr : Nat × Nat} (hg : w.heap[gl]? = some (.cells C E fr)) (hE : E ≠ 5) (hw : w.grownBy w' v.ownBlock) : w'.heap[gl]? = some (.cells C E fr) := by
  rw [← hg]
  refine hw.block gl (Array.getElem?_eq_some_iff.1 hg).1 fun e => ?_
  obtain ⟨_, h⟩ := h
  rcases h with ⟨rfl, _⟩ | ⟨g, cap, cur, rfl, hb, hh, _⟩
  · simp [Value.ownBlock] at e
  · simp only [Value.ownBlock, Option.some.injEq] at e
    subst e
    rw [hh] at hg
    simp only [Option.some.injEq, Obj.cells.injEq] at hg
    exact hE hg.2.1.symm

attribute [local irreducible] cm isI Tk.pk Tk.pn Tk.pok rightI enc parI
/-- a text's value -/
def svv (l : List UInt8) : Value := .string (str l)
set_option maxRecDepth 20000 in
set_option maxHeartbeats 4000000 in
theorem encode_any (r : Rec) (hf : Fits r) (w : World) (hw : Pres w) :
    Calls Tryd.prog 75 #[recv r] w fun e w' => e = .returned (.tuple #[.string (str (encS r)), .int .i64 (encE r)]) ∧ Ext w w' := by
  have e0 := Ext.refl w
  have hright := fun w hw => right_any r hf w hw
  cases hr : rightI r
  · have hE : RowKit.Hid (encS r = [] ∧ encE r = 1) := Lib.hid (by unfold encS encE; rw [hr]; exact ⟨rfl, rfl⟩)
    obtain ⟨k, n, p, u, sv, ur, m, us, ct, f⟩ := r
    go_enter Tryd.func75, Tryd.ntmps75
    go_wp2_with (go_at_call 84; refine (hright _ (hw.ext (e0.alloc _))).mono ?_; rintro e w' ⟨rfl, h⟩; have e0 := (e0.alloc _).trans h)
    go_ret2
    exact ⟨by rw [hE.out.1, hE.out.2]; rfl, e0⟩
  · have hR := (right_iff r).1 hr
    obtain ⟨k, n, p, u, sv, ur, m, us, ct, f⟩ := r
    obtain ⟨hk1, hk2⟩ := hR.kind
    have hpl := hR.parl
    obtain ⟨hu, hsv, hur, hm, hus, hlast, hct, hct2, -, -⟩ := hR
    simp only at hk1 hk2 hpl hu hsv hur hm hus hlast hct hct2
    obtain ⟨m, rfl⟩ := Int.eq_ofNat_of_zero_le hm
    obtain ⟨us, rfl⟩ := Int.eq_ofNat_of_zero_le (show 0 ≤ us by omega)
    obtain ⟨k, rfl⟩ := Int.eq_ofNat_of_zero_le (show 0 ≤ k by omega)
    obtain ⟨ct, rfl⟩ := Int.eq_ofNat_of_zero_le (show 0 ≤ ct by omega)
    obtain ⟨ck, hck⟩ : ∃ c, c = UInt8.ofNat k := ⟨_, rfl⟩
    obtain ⟨cc, hcc⟩ : ∃ c, c = UInt8.ofNat ct := ⟨_, rfl⟩
    obtain ⟨cf, hcf⟩ : ∃ c : UInt8, c = if f then 1 else 0 := ⟨_, rfl⟩
    have hck2 : RowKit.Hid (IntKind.u8.wrap (k : Int) = (ck.toNat : Int)) := Lib.hid (by rw [IntKind.wrap_u8, hck, u8_of _ (by omega)]; omega)
    have hcc2 : RowKit.Hid (IntKind.u8.wrap (ct : Int) = (cc.toNat : Int)) := Lib.hid (by rw [IntKind.wrap_u8, hcc, u8_of _ (by omega)]; omega)
    have hE : RowKit.Hid (encS ⟨k, n, p, u, sv, ur, m, us, ct, f⟩ = ([ck, cc, cf] ++ beB 8 m ++ beB 8 us) ++ tx p ++ tx u ++ tx sv ++ tx ur ∧ encE ⟨k, n, p, u, sv, ur, m, us, ct, f⟩ = 0) := Lib.hid (by
      unfold encS encE; rw [hr]; unfold enc hd; rw [hck, hcc, hcf]; exact ⟨by simp, rfl⟩)
    clear hck hcc
    have hcf2 := Lib.hid hcf
    clear hcf
    have cs := fun j val h => cell_new w #[.int .i64 k, .string (str n), .string (str p), .string (str u), .string (str sv), .string (str ur), .int .i64 m, .int .i64 us, .int .i64 ct, .bool f] 36 j val h
    go_enter Tryd.func75, Tryd.ntmps75
    go_upto_region 3 with (go_at_call 84; refine (hright _ (hw.ext (e0.alloc _))).mono ?_; rintro e w1 ⟨rfl, h⟩; have e1 := (e0.alloc _).trans h)
    have c0 := h.cell (cs 0 _ rfl)
    have c2 := h.cell (cs 2 _ rfl)
    have c3 := h.cell (cs 3 _ rfl)
    have c4 := h.cell (cs 4 _ rfl)
    have c5 := h.cell (cs 5 _ rfl)
    have c6 := h.cell (cs 6 _ rfl)
    have c7 := h.cell (cs 7 _ rfl)
    have c8 := h.cell (cs 8 _ rfl)
    have c9 := h.cell (cs 9 _ rfl)
    have e1h := Lib.hid e1
    clear e1 e0 h
    go_upto_if 12 with fail
    go_cut [4] (fun fr wd => fr = .int .u8 (cf.toNat : Int) ∧ w1 = wd)
    case first =>
      cases f
      · go_wp2
        go_meet
        case rel => exact ⟨by rw [hcf2.out]; rfl, rfl⟩
      · go_wp2
        go_meet
        case rel => exact ⟨by rw [hcf2.out]; rfl, rfl⟩
    case rest =>
      obtain ⟨rfl, rfl⟩ := hcut
      go_upto_region 6 with fail
      go_cut [5] (fun out wd => OwnB wd w1.heap.size out ([ck, cc, cf] ++ beB 8 m ++ beB 8 us) ∧ Ext w1 wd)
      case first =>
        have hS : ∀ W, Ext w1 W → (W.cell? ⟨w.heap.size, 0, none⟩ = some (.int .i64 (k : Int)) ∧ W.cell? ⟨w.heap.size, 8, none⟩ = some (.int .i64 (ct : Int)) ∧ W.cell? ⟨w.heap.size, 6, none⟩ = some (.int .i64 (m : Int)) ∧ W.cell? ⟨w.heap.size, 7, none⟩ = some (.int .i64 (us : Int))) := fun W e => ⟨e.cell c0, e.cell c8, e.cell c6, e.cell c7⟩
        have hlc : (#[.int .u8 (IntKind.u8.wrap (k : Int)), .int .u8 (IntKind.u8.wrap (ct : Int)), .int .u8 (cf.toNat : Int)] : Array Value).toList = [ck, cc, cf].map u8v := by rw [hck2.out, hcc2.out]; rfl
        have hl1 := beB_length 8 m
        have hl2 := beB_length 8 us
        have hS2 := Lib.hid hS
        have hlc2 := Lib.hid hlc
        clear hS hlc
        go_region_held3 (fun W => W.cell? ⟨w.heap.size, 0, none⟩ = some (.int .i64 (k : Int)) ∧ W.cell? ⟨w.heap.size, 8, none⟩ = some (.int .i64 (ct : Int)) ∧ W.cell? ⟨w.heap.size, 6, none⟩ = some (.int .i64 (m : Int)) ∧ W.cell? ⟨w.heap.size, 7, none⟩ = some (.int .i64 (us : Int)))
          ((refine hS2.out _ ?_; repeat (first | exact Ext.refl _ | with_reducible assumption | refine Ext.drew ?_ | refine Ext.alloc ?_ _ | refine Ext.trans ?_ (by assumption))))
          (first
            | (go_at_call 92; refine (number_any _ (by omega) _).mono ?_; rintro e w' ⟨v, rfl, hb, hE⟩)
            | (refine step_appendG rfl (.tmp 20) (.tmp 23) rfl _ 3 [ck, cc, cf] rfl (by exact Bytes.ext (Bytes.lit rfl hlc2.out rfl (Nat.le_refl _) (by decide)) (by repeat (first | exact Ext.refl _ | with_reducible assumption | refine Ext.drew ?_ | refine Ext.alloc ?_ _ | refine Ext.trans ?_ (by assumption)))) _ (beB 8 m) rfl (by refine Bytes.ext (by assumption) ?_; repeat (first | exact Ext.refl _ | with_reducible assumption | refine Ext.drew ?_ | refine Ext.alloc ?_ _ | refine Ext.trans ?_ (by assumption))) (by omega) (by simp; omega) ?_; intro v4 w4 g4 hE4; have g4 := g4.down (Below.size (by repeat (first | exact Ext.refl _ | with_reducible assumption | refine Ext.drew ?_ | refine Ext.alloc ?_ _ | refine Ext.trans ?_ (by assumption)) : Ext w1 _)))
            | (refine step_appendB rfl (.tmp 24) (.tmp 27) rfl w1.heap.size _ ([ck, cc, cf] ++ beB 8 m) rfl (by refine OwnB.ext (by assumption) ?_; repeat (first | exact Ext.refl _ | with_reducible assumption | refine Ext.drew ?_ | refine Ext.alloc ?_ _ | refine Ext.trans ?_ (by assumption))) _ (beB 8 us) rfl (by refine Bytes.ext (by assumption) ?_; repeat (first | exact Ext.refl _ | with_reducible assumption | refine Ext.drew ?_ | refine Ext.alloc ?_ _ | refine Ext.trans ?_ (by assumption))) (by simp; omega) (Below.size (by repeat (first | exact Ext.refl _ | with_reducible assumption | refine Ext.drew ?_ | refine Ext.alloc ?_ _ | refine Ext.trans ?_ (by assumption)) : Ext w1 _)) ?_; intro v5 w5 g5 g6; have hE5 : Ext w1 w5 := Ext.own (a := w1) (by repeat (first | exact Ext.refl _ | with_reducible assumption | refine Ext.drew ?_ | refine Ext.alloc ?_ _ | refine Ext.trans ?_ (by assumption))) (by refine OwnB.ext (by assumption) ?_; repeat (first | exact Ext.refl _ | with_reducible assumption | refine Ext.drew ?_ | refine Ext.alloc ?_ _ | refine Ext.trans ?_ (by assumption)) : OwnB _ w1.heap.size _ ([ck, cc, cf] ++ beB 8 m)) g6))
        all_goals
          go_wp2
          go_meet
          case rel => exact ⟨g5, hE5⟩
      case rest =>
        obtain ⟨ho, eO⟩ := hcut
        have c2 := eO.cell c2
        have c3 := eO.cell c3
        have c4 := eO.cell c4
        have c5 := eO.cell c5
        have hw1 := e1h.out.trans eO
        obtain ⟨L, hL⟩ : ∃ L, L = [p, u, sv, ur] := ⟨_, rfl⟩
        have hLl : RowKit.Hid (L.length = 4) := Lib.hid (by rw [hL]; rfl)
        have hLs : RowKit.Hid (∀ x ∈ L, x.length ≤ 100) := Lib.hid (by rw [hL]; intro x hx; simp only [List.mem_cons, List.not_mem_nil, or_false] at hx; rcases hx with rfl | rfl | rfl | rfl <;> omega)
        obtain ⟨full, hfull⟩ : ∃ full, full = ([ck, cc, cf] ++ beB 8 m ++ beB 8 us) ++ L.flatMap tx := ⟨_, rfl⟩
        have hE2 : RowKit.Hid (encS ⟨k, n, p, u, sv, ur, m, us, ct, f⟩ = full ∧ encE ⟨k, n, p, u, sv, ur, m, us, ct, f⟩ = 0) := Lib.hid ⟨by rw [hE.out.1, hfull, hL]; simp, hE.out.2⟩
        have hF0 : RowKit.Hid (([ck, cc, cf] ++ beB 8 m ++ beB 8 us) ++ (L.drop 0).flatMap tx = full) := Lib.hid (by rw [hfull]; rfl)
        have hC : RowKit.Hid (#[.string (str p), .string (str u), .string (str sv), .string (str ur)] = (L.map svv).toArray) := Lib.hid (by rw [hL]; rfl)
        have hl0 : ([ck, cc, cf] ++ beB 8 m ++ beB 8 us).length = 19 := by simp [beB_length]
        clear hL hfull hE cs c0 c6 c7 c8 c9 hck2 hcc2 hcf2
        generalize hacc : [ck, cc, cf] ++ beB 8 m ++ beB 8 us = acc0 at ho hF0 hl0
        clear hacc
        go_wp2
        have hlist : (wc.alloc (.cells #[.string (str p), .string (str u), .string (str sv), .string (str ur)] 9)).heap[wc.heap.size]? = some (.cells (L.map svv).toArray 9 (0, 0)) := by rw [← hC.out]; exact heap_alloc_new wc _
        go_loopw [5, 39] (fun out i wr => ∃ (j : Nat) (acc : List UInt8), j ≤ 4 ∧ i = .int .i64 j ∧ acc.length ≤ 19 + 101 * j ∧ OwnB wr w1.heap.size out acc ∧ Ext w wr ∧ w1.heap.size ≤ wr.heap.size ∧ wr.heap[wc.heap.size]? = some (.cells (L.map svv).toArray 9 (0, 0)) ∧ RowKit.Hid (acc ++ (L.drop j).flatMap tx = full)) (fun _ i _ => 4 - (intOf i).toNat)
        case atStart => exact ⟨0, acc0, Nat.zero_le _, rfl, by omega, ho.alloc _, hw1.alloc _, by have := eO.size; simp; omega, hlist, hF0⟩
        case round =>
          obtain ⟨j, acc, hj, rfl, hal, ho, ew, hsz, hlist, hF⟩ := hrel
          by_cases hlt : j < 4
          · obtain ⟨s, hs⟩ : ∃ s, L[j]? = some s := ⟨L[j]'(by rw [hLl.out]; exact hlt), List.getElem?_eq_getElem _⟩
            have hsl : s.length ≤ 100 := hLs.out s (List.mem_of_getElem? hs)
            have cellj : wr.cell? ⟨wc.heap.size, j, none⟩ = some (.string (str s)) := by
              rw [cell_of_row _ _ _ _ _ _ hlist]
              simp [hs, svv]
            have hF2 : RowKit.Hid (((acc ++ [UInt8.ofNat s.length]) ++ s) ++ (L.drop (j + 1)).flatMap tx = full) := Lib.hid (by
              have hd : L.drop j = s :: L.drop (j + 1) := by
                have hjl : j < L.length := by rw [hLl.out]; exact hlt
                rw [List.drop_eq_getElem_cons hjl]
                rw [List.getElem?_eq_getElem hjl] at hs
                rw [Option.some.inj hs]
              rw [← hF.out, hd]
              simp [tx])
            have hcs : RowKit.Hid ((#[.int .u8 (s.length : Int)] : Array Value).toList = [UInt8.ofNat s.length].map u8v) := Lib.hid (by
              have := u8_of s.length (by omega)
              rw [List.map_singleton, u8v, this])
            clear hs
            go_wp2_with (first
              | (at_builtin; refine wpList_appendB rfl _ _ rfl w1.heap.size _ acc rfl (ho.alloc _) _ [UInt8.ofNat s.length] rfl (Bytes.lit rfl hcs.out rfl (Nat.le_refl _) (by decide)) (by simp; omega) (by simp; omega) ?_; intro v6 w6 g6 k6; have ho6 := ho.alloc (.cells #[.int .u8 (s.length : Int)] 5))
              | (at_builtin; refine wpList_appendT rfl _ _ rfl w1.heap.size _ _ rfl g6 s rfl (by simp; omega) (Nat.le_trans (by simp; omega) k6.size) ?_; intro v7 w7 g7 k7))
            go_roundw
            case rel =>
              have hb1 := e1h.out.size
              have q1 := ((Ext.refl wr).alloc (.cells #[.int .u8 (s.length : Int)] 5)).heap hlist
              have q6 := ho6.apart q1 (by decide) k6
              have q7 := g6.apart q6 (by decide) k7
              have x6 := (ew.alloc (.cells #[.int .u8 (s.length : Int)] 5)).grown k6 (fun q hq => Nat.le_trans hb1 (ho6.lt q hq))
              have x7 := x6.grown k7 (fun q hq => Nat.le_trans hb1 (g6.lt q hq))
              have z1 := ((Ext.refl wr).alloc (.cells #[.int .u8 (s.length : Int)] 5)).size
              have z6 := k6.size
              have z7 := k7.size
              exact ⟨j + 1, _, by omega, by go_num, by simp; omega, g7, x7, by omega, q7, hF2⟩
            case measure => simp [intOf]; omega
          · obtain rfl : j = 4 := by omega
            have hF3 : RowKit.Hid (acc = full) := Lib.hid (by rw [← hF.out, List.drop_eq_nil_of_le (by rw [hLl.out]; exact Nat.le_refl 4)]; simp)
            have kc := conv_bytes ho.bytes
            go_wp2
            go_ret2
            exact ⟨by rw [hE2.out.1, hE2.out.2, hF3.out]; rfl, ew⟩
end Go.Proofs.YtmdepmohfnficaaDoor
