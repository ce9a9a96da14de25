/- ExpiryNever, walked. -/
import Derived.Test.YtmdepmohfnficaaDoorFxI
namespace Go.Proofs.YtmdepmohfnficaaDoor
set_option linter.unusedVariables false
set_option linter.unusedSimpArgs false
open Go.RowKit Rk Tr

namespace Tr
theorem bl_never {n m l : Int} (h : n ≤ m) (hb : bl m l = true) : bl n l = true := by
  unfold bl at *
  rw [Bool.or_eq_true, decide_eq_true_iff] at *
  rcases hb with hb | hb
  · exact .inl hb
  · exact .inr (by omega)
theorem live_never {f : Nat → Int} {r : Rec} {now later : Int} (hle : now ≤ later) (h : liveI f r now = false) : liveI f r later = false := by
  rw [← Bool.not_eq_true] at *
  refine fun hl => h ?_
  unfold liveI at *
  simp only [Bool.and_eq_true] at hl ⊢
  obtain ⟨h1, h2, h3, h4⟩ := hl
  exact ⟨h1, bl_never (by omega) h2, bl_never (by omega) h3, h4⟩
theorem alive_never {l : List Rec} {f : Nat → Int} {n : List UInt8} {now later : Int} (hle : now ≤ later) (h : aliveI l f now n = false) : aliveI l f later n = false := by
  rw [← Bool.not_eq_true] at *
  refine fun hl => h ?_
  unfold aliveI at *
  rw [Bool.and_eq_true, List.all_eq_true] at *
  refine ⟨fun m hm => ?_, hl.2⟩
  have := hl.1 m hm
  unfold offI at *
  cases hb : (seq m n || holdsI (getR l m).kind)
  · simp
  · rw [hb] at this
    cases hv : liveI f (getR l m) now
    · rw [live_never hle hv] at this; simp at this
    · simp
theorem getR_at {l : List Rec} (h : Ok l) {k : Nat} {x : Rec} (hx : l[k]? = some x) : getR l x.name = x := by
  unfold getR
  rw [ix_at h.nodup hx]
  exact getD_at hx
theorem below_off {l : List Rec} (h : Ok l) {f : Nat → Int} {now : Int} {k : Nat} {x : Rec} (hx : l[k]? = some x) (hl : liveI f x now = false) (hh : holdsI x.kind = true) {m : List UInt8} (hm : m ∈ below l x.name) : aliveI l f now m = false := by
  refine alive_no (m := x.name) ((mem_below h).1 hm) ?_
  unfold offI
  rw [getR_at h hx, hl, hh, Bool.or_true]; rfl
end Tr
theorem pol_range {W : World} {B : Nat} {f : Nat → Int} (h : W.heap[B]? = some (.cells (pcA f) 25 (0, 0))) : W.rangeAt B 0 (pcA f).toList := fun j u hu => by
  rw [Nat.zero_add]
  exact (cell_of_row _ B j _ _ _ h).trans (by rw [← hu, Array.getElem?_toList])
theorem yieldsIf_load_pol {ops : Array Oper} {S : World → Prop} {op : Oper} {a : Act} (hw : Region.wanted op (yielded ops a.tmps) = true) (x : Operand) (ho : op.op = .load 25 x) (b : Nat) (hx : a.eval x = .pointer (some ⟨b, 0, none⟩)) (f : Nat → Int)
    (hS : ∀ w, S w → w.rangeAt b 0 (pcA f).toList) : YieldsIf Tryd.prog ops S op (.agg (pcA f)) a := by
  have := yieldsIf_load_mid hw 25 x ho b 0 hx (pcA f).toList _ hS Tryd.underlying25 rfl (by rw [pc_sz f, Array.length_toList])
  rwa [Array.toArray_toList] at this
attribute [local irreducible] pcA rcells liveI holdsI offI aliveI bldL rightP tmI
set_option maxRecDepth 20000 in
set_option maxHeartbeats 4000000 in
theorem expiryNever_any (v1 : Value) (l1 : List Rec) (f : Nat → Int) (now later : Int) (w : World) (hw : Pres w) (h1 : Recs w v1 l1) :
    Calls Tryd.prog 3 #[v1, .agg (pcA f), .int .i64 now, .int .i64 later] w fun e w' => e = .returned (.bool true) ∧ Ext w w' := by
  have hg := heap_alloc_new w (.cells (pcA f) 25)
  have e1 := (Ext.refl w).alloc (.cells (pcA f) 25)
  have h1h := Lib.hid h1
  have hwh := Lib.hid hw
  obtain ⟨a1, c1, rfl, -⟩ := Rw.shape h1
  clear hw h1
  go_enter Tryd.func3, Tryd.ntmps3
  go_upto_region 1 with fail
  generalize w.alloc (.cells (pcA f) 25) = W1 at *
  generalize w.heap.size = B0 at *
  have e1h := Lib.hid e1
  have hgh := Lib.hid hg
  clear e1 hg
  go_upto_region 3 with (first
    | (go_at_call 13; refine (awake15_any _).mono ?_; rintro e W2 ⟨rfl, e2⟩; have hg2 := Lib.hid (e2.heap hgh.out))
    | (refine wpList_load_rowG (by rfl) 25 _ rfl B0 rfl 25 (pcA f) (0, 0) _ hg2.out Tryd.underlying25 rfl (pc_sz f) ?_)
    | (go_at_call 14; refine (refRightP_any f _).mono ?_; rintro e W3 ⟨rfl, e3⟩))
  have e13 := e1h.out.trans (e2.trans e3)
  have hg3 := Lib.hid (e3.heap hg2.out)
  have hB := (built_any _ l1 W3 (h1h.out.ext e13) (hwh.out.ext e13)).mono (R' := fun e w' => ∃ p q b, e = .returned (.tuple #[.pointer (some ⟨p, 0, none⟩), .pointer (some ⟨q, 0, none⟩), .bool b]) ∧ RowKit.Hid ((b = true ∧ Tw W3 w' p q 64 (bldL [] l1)) ∨ (b = false ∧ Ext W3 w'))) fun e w' h => by
    obtain ⟨p, q, ⟨rfl, h⟩ | ⟨rfl, h⟩⟩ := h
    · exact ⟨p, q, true, rfl, Lib.hid (.inl ⟨rfl, h⟩)⟩
    · exact ⟨p, q, false, rfl, Lib.hid (.inr ⟨rfl, h⟩)⟩
  have e13h := Lib.hid e13
  clear e1h hgh e2 hg2 e3 e13 hwh
  go_upto_region 4 with (go_at_call 15; refine hB.mono ?_; rintro e W4 ⟨p, q, b, rfl, hTw⟩)
  clear hB
  obtain ⟨hb, hTT⟩ | ⟨hb, e4⟩ := hTw.out
  rotate_left
  · subst hb
    have e04 := Lib.hid (e13h.out.trans e4)
    clear e4 hTw
    go_wp2
    go_ret
    exact ⟨rfl, e04.out⟩
  subst hb
  obtain ⟨F, G, tp, tq, hF, hG, hFG, e34⟩ := hTT
  have e04 := Lib.hid (e13h.out.trans e34)
  have hg4 := Lib.hid (e34.heap hg3.out)
  clear hTw e34 hF hG hFG hg3
  cases hrp : rightP f
  · go_wp2
    go_ret
    exact ⟨rfl, e04.out⟩
  cases ht : tmI now
  · go_wp2_with (go_at_call 16; refine (time_any _ _).mono ?_; rintro e w' ⟨rfl, rfl⟩)
    go_ret
    exact ⟨rfl, e04.out⟩
  cases ht2 : tmI later
  · go_wp2_with (go_at_call 16; refine (time_any _ _).mono ?_; rintro e w' ⟨rfl, rfl⟩)
    go_ret
    exact ⟨rfl, e04.out⟩
  by_cases hle : later < now
  · have d : decide (later < now) = true := decide_eq_true hle
    go_wp2_with (go_at_call 16; refine (time_any _ _).mono ?_; rintro e w' ⟨rfl, rfl⟩)
    go_ret
    exact ⟨rfl, e04.out⟩
  have d : decide (later < now) = false := decide_eq_false hle
  have hSt := Lib.hid (St.bld l1 (St.nil (Nat.le_refl 64)))
  have hle2 := Lib.hid (show now ≤ later by omega)
  have ht' := Lib.hid ht
  have ht2' := Lib.hid ht2
  generalize bldL [] l1 = L at *
  obtain ⟨aq, cq, -, hq1, rq⟩ := tq.parts
  obtain ⟨a', cap', hq, hlm, hget⟩ := Rw.shape rq
  cases hq
  have hgeth := Lib.hid hget
  have hq1h := Lib.hid hq1
  have tph := Lib.hid tp
  clear hle hget hq1 rq tp tq h1h
  go_upto_region 6 with (go_at_call 16; refine (time_any _ _).mono ?_; rintro e w' ⟨rfl, rfl⟩)
  clear d ht ht2 hrp
  go_wp2
  go_loopw [14] (fun i wr => ∃ k : Nat, k ≤ L.length ∧ i = .int .i64 (k : Int) ∧ Ext W4 wr) (fun i _ => L.length - (intOf i).toNat)
  case atStart => exact ⟨0, Nat.zero_le _, rfl, Ext.refl _⟩
  case round =>
    obtain ⟨k, hk, rfl, ek⟩ := hrel
    have cq1 := ek.cell hq1h.out
    by_cases hlt : k < L.length
    · obtain ⟨x, hx⟩ := some_at hlt
      obtain ⟨g, o, cs, rfl, hr, rfl, hf⟩ := hgeth.out k x hx
      have hki : (k : Int) < (L.length : Int) := by omega
      have hw : IntKind.i64.wrap ((k : Int) + 1) = (k : Int) + 1 := by have := hSt.out.small; rw [IntKind.wrap_i64]; omega
      have hr2 : wr.rangeAt g (o + k * 10) (prow x) := fun i u hu => ek.cell (hr i u hu)
      go_upto_region 10 with (first
        | (refine wpList_load_rec (by rfl) _ rfl g (o + k * 10) rfl x hr2 ?_)
        | (refine wpList_store_new wr rfl 36 _ _ rfl (rcells x) _ rfl rfl rfl 10 info_rec (rc_ten x) rfl (rc_one x) ?_))
      go_frame
      have hb5 := heap_alloc_new wr (.cells (rcells x) 36)
      have e5 := ek.alloc (.cells (rcells x) 36)
      have hgx := Lib.hid (e5.heap hg4.out)
      generalize wr.alloc (.cells (rcells x) 36) = W5 at *
      generalize wr.heap.size = B5 at *
      have hb5h := Lib.hid hb5
      have e5h := Lib.hid e5
      have hL1 := Lib.hid (fun W => liveB_any f x now ht'.out (right_bnd (hSt.out.ok.right x (List.mem_of_getElem? hx))) W)
      have hL2 := Lib.hid (fun W => liveB_any f x later ht2'.out (right_bnd (hSt.out.ok.right x (List.mem_of_getElem? hx))) W)
      have hxh := Lib.hid hx
      clear hr hr2 hq1h cq1 ek hb5 e5 hx hgeth
      go_cut [79] (fun b wd => b = .bool false ∧ Ext W5 wd)
      case first =>
        have hpA := Lib.hid (fun W (e : Ext W5 W) => e.heap hgx.out)
        have hbA := Lib.hid (fun W (e : Ext W5 W) => e.heap hb5h.out)
        have hLn := Lib.hid (fun h => live_never (f := f) (r := x) hle2.out h)
        cases hl : liveI f x now
        · rw [hl] at hL1
          rw [hLn.out hl] at hL2
          clear hl
          go_wp2_with (first
            | (refine wpList_load_rowG (by rfl) 25 _ rfl B0 rfl 25 (pcA f) (0, 0) _ (hpA.out _ (by first | exact Ext.refl _ | assumption)) Tryd.underlying25 rfl (pc_sz f) ?_)
            | (refine wpList_load_rowG (by rfl) 36 _ rfl B5 rfl 36 (rcells x) (0, 0) _ (hbA.out _ (by first | exact Ext.refl _ | assumption)) Tryd.underlying36 rfl (rc_sz x) ?_)
            | (go_at_call 17; first
              | ((with_reducible refine (hL1.out _).mono ?_); rintro e W6 ⟨rfl, e6⟩)
              | ((with_reducible refine (hL2.out _).mono ?_); rintro e W7 ⟨rfl, e7⟩; go_wp2_with fail)))
          go_meet
          exact ⟨rfl, e6.trans e7⟩
        · rw [hl] at hL1
          clear hl
          go_wp2_with (first
            | (refine wpList_load_rowG (by rfl) 25 _ rfl B0 rfl 25 (pcA f) (0, 0) _ (hpA.out _ (by first | exact Ext.refl _ | assumption)) Tryd.underlying25 rfl (pc_sz f) ?_)
            | (refine wpList_load_rowG (by rfl) 36 _ rfl B5 rfl 36 (rcells x) (0, 0) _ (hbA.out _ (by first | exact Ext.refl _ | assumption)) Tryd.underlying36 rfl (rc_sz x) ?_)
            | (go_at_call 17; refine (hL1.out _).mono ?_; rintro e W6 ⟨rfl, e6⟩; go_wp2_with fail))
          go_meet
          exact ⟨rfl, e6⟩
      case rest =>
        obtain ⟨rfl, e6⟩ := hcut
        have hgy := Lib.hid (e6.heap hgx.out)
        have hb6 := Lib.hid (e6.heap hb5h.out)
        have e6h := Lib.hid (e5h.out.trans e6)
        obtain ⟨W6, rfl⟩ : ∃ W, W = wc := ⟨_, rfl⟩
        clear hL2 hgx hb5h e5h e6
        have hA1 := Lib.hid (fun W (e : Ext W4 W) => alive_any f x.name now (tph.out.ext e) hSt.out.ok hSt.out.small ht'.out)
        have hA2 := Lib.hid (fun W (e : Ext W4 W) => alive_any f x.name later (tph.out.ext e) hSt.out.ok hSt.out.small ht2'.out)
        go_upto_region 12 with fail
        have kn := cell_at hb6.out 1 (rc_cells x).2.1
        go_cut [94] (fun b wd => b = .bool false ∧ Ext W6 wd)
        case first =>
          have hpA := Lib.hid (fun W (e : Ext W6 W) => e.heap hgy.out)
          have hAn := Lib.hid (fun h => alive_never (l := L) (f := f) (n := x.name) hle2.out h)
          cases hl : aliveI L f now x.name
          · rw [hl] at hA1
            rw [hAn.out hl] at hA2
            clear hl
            go_wp2_with (first
              | (refine wpList_load_rowG (by rfl) 25 _ rfl B0 rfl 25 (pcA f) (0, 0) _ (hpA.out _ (by first | exact Ext.refl _ | assumption)) Tryd.underlying25 rfl (pc_sz f) ?_)
              | (go_at_call 18; first
                | ((with_reducible refine (hA1.out _ e6h.out).mono ?_); rintro e W7 ⟨rfl, e7⟩; have kn7 := e7.cell kn)
                | ((with_reducible refine (hA2.out _ (e6h.out.trans e7)).mono ?_); rintro e W8 ⟨rfl, e8⟩; go_wp2_with fail)))
            go_meet
            exact ⟨rfl, e7.trans e8⟩
          · rw [hl] at hA1
            clear hl
            go_wp2_with (first
              | (refine wpList_load_rowG (by rfl) 25 _ rfl B0 rfl 25 (pcA f) (0, 0) _ (hpA.out _ (by first | exact Ext.refl _ | assumption)) Tryd.underlying25 rfl (pc_sz f) ?_)
              | (go_at_call 18; refine (hA1.out _ e6h.out).mono ?_; rintro e W7 ⟨rfl, e7⟩; go_wp2_with fail))
            go_meet
            exact ⟨rfl, e7⟩
        case rest =>
          obtain ⟨rfl, e7⟩ := hcut
          have hgz := Lib.hid (e7.heap hgy.out)
          have hb7 := Lib.hid (e7.heap hb6.out)
          have e7h := Lib.hid (e6h.out.trans e7)
          obtain ⟨W7, rfl⟩ : ∃ W, W = wc := ⟨_, rfl⟩
          clear hA2 hgy hb6 e6h e7 hA1 kn
          go_upto_region 14 with fail
          have kk := cell_at hb7.out 0 (rc_cells x).1
          go_cut [108] (fun b wd => b = .bool (liveI f x now || !holdsI x.kind) ∧ Ext W7 wd)
          case first =>
            have hpA := Lib.hid (fun W (e : Ext W7 W) => e.heap hgz.out)
            have hbA := Lib.hid (fun W (e : Ext W7 W) => e.heap hb7.out)
            cases hl : liveI f x now
            · rw [hl] at hL1
              have hlh := Lib.hid hl
              clear hl
              by_cases h1 : x.kind = 1
              · have q : (x.kind != 1) = false := by rw [h1]; rfl
                have hH := Lib.hid (show holdsI x.kind = true from by unfold holdsI; rw [h1]; rfl)
                clear h1
                go_wp2_with (first
                  | (refine wpList_load_rowG (by rfl) 25 _ rfl B0 rfl 25 (pcA f) (0, 0) _ (hpA.out _ (by first | exact Ext.refl _ | assumption)) Tryd.underlying25 rfl (pc_sz f) ?_)
                  | (refine wpList_load_rowG (by rfl) 36 _ rfl B5 rfl 36 (rcells x) (0, 0) _ (hbA.out _ (by first | exact Ext.refl _ | assumption)) Tryd.underlying36 rfl (rc_sz x) ?_)
                  | (go_at_call 17; refine (hL1.out _).mono ?_; rintro e W8 ⟨rfl, e8⟩; have kk8 := e8.cell kk; go_wp2_with fail))
                go_meet
                exact ⟨by rw [hlh.out, hH.out]; rfl, e8⟩
              · have q : (x.kind != 1) = true := by rw [bne_iff_ne]; exact h1
                have hH := Lib.hid (show holdsI x.kind = (x.kind == 4) from by unfold holdsI; rw [beq_eq_false_iff_ne.2 h1]; rfl)
                clear h1
                go_wp2_with (first
                  | (refine wpList_load_rowG (by rfl) 25 _ rfl B0 rfl 25 (pcA f) (0, 0) _ (hpA.out _ (by first | exact Ext.refl _ | assumption)) Tryd.underlying25 rfl (pc_sz f) ?_)
                  | (refine wpList_load_rowG (by rfl) 36 _ rfl B5 rfl 36 (rcells x) (0, 0) _ (hbA.out _ (by first | exact Ext.refl _ | assumption)) Tryd.underlying36 rfl (rc_sz x) ?_)
                  | (go_at_call 17; refine (hL1.out _).mono ?_; rintro e W8 ⟨rfl, e8⟩; have kk8 := e8.cell kk; go_wp2_with fail))
                go_meet
                exact ⟨by rw [hlh.out, hH.out]; rfl, e8⟩
            · rw [hl] at hL1
              have hlh := Lib.hid hl
              clear hl
              go_wp2_with (first
                | (refine wpList_load_rowG (by rfl) 25 _ rfl B0 rfl 25 (pcA f) (0, 0) _ (hpA.out _ (by first | exact Ext.refl _ | assumption)) Tryd.underlying25 rfl (pc_sz f) ?_)
                | (refine wpList_load_rowG (by rfl) 36 _ rfl B5 rfl 36 (rcells x) (0, 0) _ (hbA.out _ (by first | exact Ext.refl _ | assumption)) Tryd.underlying36 rfl (rc_sz x) ?_)
                | (go_at_call 17; refine (hL1.out _).mono ?_; rintro e W8 ⟨rfl, e8⟩; have kk8 := e8.cell kk; go_wp2_with fail))
              go_meet
              exact ⟨by rw [hlh.out]; rfl, e8⟩
          case rest =>
            obtain ⟨rfl, e8⟩ := hcut
            have hgw := Lib.hid (e8.heap hgz.out)
            have hb8 := e8.heap hb7.out
            have kn := cell_at hb8 1 (rc_cells x).2.1
            have e8h := Lib.hid (e7h.out.trans e8)
            obtain ⟨W8, rfl⟩ : ∃ W, W = wc := ⟨_, rfl⟩
            clear hgz hb7 e7h e8 hL1 kk hb8
            by_cases hdo : (liveI f x now || !holdsI x.kind) = true
            · rw [hdo]
              clear hdo
              go_wp2
              go_roundw
              case rel => exact ⟨k + 1, by omega, by go_num, e8h.out⟩
              case measure => simp [intOf]; omega
            · rw [Bool.not_eq_true] at hdo
              have hbl := Lib.hid (fun m hm => (let h := Bool.or_eq_false_iff.1 hdo; below_off hSt.out.ok (now := now) hxh.out h.1 (by simpa using h.2) (m := m) hm))
              rw [hdo]
              clear hdo
              have hBe := below_any x.name (tph.out.ext e8h.out) hSt.out.ok (by have := hSt.out.small; omega) (by have := hSt.out.bel x.name; omega)
              go_upto_region 16 with (go_at_call 19; refine hBe.mono ?_; rintro e W9 ⟨_, rfl, o9, e9⟩)
              obtain ⟨a9, c9, rfl, hs9⟩ := o9.sl
              have hc9 := Lib.hid hs9.cells
              have e9h := Lib.hid (e8h.out.trans e9)
              have hg9 := Lib.hid (e9.heap hgw.out)
              have hP64 := Lib.hid (hSt.out.bel x.name)
              generalize below L x.name = P at *
              clear hBe o9 hs9 e9 hgw kn
              go_wp2
              go_loopw [17] (fun i ws => ∃ j : Nat, j ≤ P.length ∧ i = .int .i64 (j : Int) ∧ Ext W9 ws) (fun i _ => P.length - (intOf i).toNat)
              case atStart => exact ⟨0, Nat.zero_le _, rfl, Ext.refl _⟩
              case round =>
                obtain ⟨j, hj, rfl, ej⟩ := hrel
                by_cases hjt : j < P.length
                · obtain ⟨m, hm⟩ := some_at hjt
                  obtain ⟨g9, q9, rfl, p0⟩ := hc9.out j m hm
                  unfold sv at p0
                  have hji : (j : Int) < (P.length : Int) := by omega
                  have hw2 : IntKind.i64.wrap ((j : Int) + 1) = (j : Int) + 1 := by have := hP64.out; rw [IntKind.wrap_i64]; omega
                  have hAl := Lib.hid (fun W (e : Ext wr W) => (by
                    have h := alive_any f m now (tph.out.ext ((e9h.out.trans ej).trans e)) hSt.out.ok hSt.out.small ht'.out
                    rwa [hbl.out m (List.mem_of_getElem? hm)] at h : Calls Tryd.prog 18 #[.pointer (some ⟨p, 0, none⟩), .agg (pcA f), .string (str m), .int .i64 now] W fun e w' => e = .returned (.bool false) ∧ Ext W w'))
                  have hS := Lib.hid (fun W (e : Ext wr W) => (⟨pol_range (e.heap (ej.heap hg9.out)), (ej.trans e).cell p0⟩ : W.rangeAt B0 0 (pcA f).toList ∧ W.cell? ⟨g9, q9 + j, none⟩ = some (.string (str m))))
                  clear p0 hm
                  go_upto_region 19 with fail
                  refine wp_region_held_drew (S := (fun W => W.rangeAt B0 0 (pcA f).toList ∧ W.cell? ⟨g9, q9 + j, none⟩ = some (.string (str m)))) (by kernel_rfl) ?_ (fun hHeld => ?_)
                  · (refine hS.out _ ?_; (repeat (first | exact Ext.refl _ | with_reducible assumption | refine Ext.drew ?_ | refine Ext.alloc ?_ _ | refine Ext.trans ?_ (by assumption))))
                  refine wpAnyH_take (i := 0) (v := ?_) rfl (by kernel_rfl) (by kernel_rfl) (by kernel_rfl) (fun _ _ _ h => h) (Or.inl ⟨by kernel_rfl, ?_⟩) (by assumption) ?_
                  rotate_left
                  · (intro w hSw; (try dsimp only at hSw); go_simp; try with_reducible rfl)
                  try simp only [Act.put, List.setIfInBounds_toArray, List.set_cons_zero, List.set_cons_succ]
                  refine wpAnyH_take (i := 1) (v := .agg (pcA f)) rfl (by kernel_rfl) (by kernel_rfl) (by kernel_rfl) (fun _ _ _ h => h) (yieldsIf_load_pol (by kernel_rfl) _ rfl B0 rfl f (fun _ h => h.1)) (by assumption) ?_
                  try simp only [Act.put, List.setIfInBounds_toArray, List.set_cons_zero, List.set_cons_succ]
                  refine wpAnyH_take (i := 2) (v := ?_) rfl (by kernel_rfl) (by kernel_rfl) (by kernel_rfl) (fun _ _ _ h => h) (Or.inl ⟨by kernel_rfl, ?_⟩) (by assumption) ?_
                  rotate_left
                  · (intro w hSw; (try dsimp only at hSw); go_simp; try with_reducible rfl)
                  try simp only [Act.put, List.setIfInBounds_toArray, List.set_cons_zero, List.set_cons_succ]
                  refine wpAnyH_take (i := 3) (v := ?_) rfl (by kernel_rfl) (by kernel_rfl) (by kernel_rfl) (fun _ _ _ h => h) (Or.inl ⟨by kernel_rfl, ?_⟩) (by assumption) ?_
                  rotate_left
                  · (intro w hSw; (try dsimp only at hSw); go_simp; try with_reducible rfl)
                  try simp only [Act.put, List.setIfInBounds_toArray, List.set_cons_zero, List.set_cons_succ]
                  refine wpAnyH_take (i := 4) (v := ?_) rfl (by kernel_rfl) (by kernel_rfl) (by kernel_rfl) (fun _ _ _ h => h) (Or.inl ⟨by kernel_rfl, ?_⟩) (by assumption) ?_
                  rotate_left
                  · (intro w hSw; (try dsimp only at hSw); go_simp; try with_reducible rfl)
                  try simp only [Act.put, List.setIfInBounds_toArray, List.set_cons_zero, List.set_cons_succ]
                  refine wpAnyH_take (i := 5) (v := ?_) rfl (by kernel_rfl) (by kernel_rfl) (by kernel_rfl) (fun _ _ _ h => h) (Or.inl ⟨by kernel_rfl, ?_⟩) (by assumption) ?_
                  rotate_left
                  · (intro w hSw; (try dsimp only at hSw); go_simp; try with_reducible rfl)
                  try simp only [Act.put, List.setIfInBounds_toArray, List.set_cons_zero, List.set_cons_succ]
                  refine wpAnyH_take (i := 6) (v := ?_) rfl (by kernel_rfl) (by kernel_rfl) (by kernel_rfl) (fun _ _ _ h => h) (Or.inl ⟨by kernel_rfl, ?_⟩) (by assumption) ?_
                  rotate_left
                  · (intro w hSw; (try dsimp only at hSw); go_simp; try with_reducible rfl)
                  try simp only [Act.put, List.setIfInBounds_toArray, List.set_cons_zero, List.set_cons_succ]
                  refine wpAnyH_ready (rs := [7]) (by kernel_rfl) (by simp) ?_
                  refine AllReadyH.cons rfl (fun K hK => ?_) ?_
                  · go_simp
                    (go_at_call 18; refine (hAl.out _ (by (repeat (first | exact Ext.refl _ | with_reducible assumption | refine Ext.drew ?_ | refine Ext.alloc ?_ _ | refine Ext.trans ?_ (by assumption))))).mono ?_; rintro e WA ⟨rfl, eA⟩)
                    go_wp2_with fail
                    clear hHeld
                    refine hK.out _ _ ?_ (fun hHeld => ?_)
                    · (refine hS.out _ ?_; (repeat (first | exact Ext.refl _ | with_reducible assumption | refine Ext.drew ?_ | refine Ext.alloc ?_ _ | refine Ext.trans ?_ (by assumption))))
                    clear hK K
                    try simp only [Act.put, List.setIfInBounds_toArray, List.set_cons_zero, List.set_cons_succ]
                    refine wpAnyH_done (by kernel_rfl) ?_ _
                    have eW := (by (repeat (first | exact Ext.refl _ | with_reducible assumption | refine Ext.drew ?_ | refine Ext.alloc ?_ _ | refine Ext.trans ?_ (by assumption))) : Ext wr WA)
                    clear hHeld
                    go_wp2
                    go_roundw
                    case rel => exact ⟨j + 1, by omega, by go_num, ej.trans eW⟩
                    case measure => simp [intOf]; omega
                  exact AllReadyH.nil
                · obtain rfl : j = P.length := by omega
                  clear hc9 hg9 hbl
                  go_wp2
                  go_roundw
                  case rel => exact ⟨k + 1, by omega, by go_num, e9h.out.trans ej⟩
                  case measure => simp [intOf]; omega
    · obtain rfl : k = L.length := by omega
      go_wp2
      go_ret
      exact ⟨rfl, e04.out.trans ek⟩
end Go.Proofs.YtmdepmohfnficaaDoor
