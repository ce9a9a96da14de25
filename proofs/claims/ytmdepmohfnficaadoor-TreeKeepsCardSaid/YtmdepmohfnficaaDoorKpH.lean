/- The document's Put, After. -/
import Derived.Test.YtmdepmohfnficaaDoorKpG
namespace Go.Proofs.YtmdepmohfnficaaDoor
set_option linter.unusedVariables false
set_option linter.unusedSimpArgs false
open Go.RowKit Kv

def slt (a b : List UInt8) : Bool := decide (a < b)
theorem bytes_less : ∀ (x y : List UInt8), Op.bytesLess x y = decide (x < y)
  | [], [] => by simp [Op.bytesLess]
  | _ :: _, [] => by simp [Op.bytesLess]
  | [], _ :: _ => by simp [Op.bytesLess]
  | a :: x, b :: y => by
    rw [Op.bytesLess, bytes_less x y]
    by_cases h : a < b
    · simp [h, List.cons_lt_cons_iff]
    · by_cases he : a = b
      · subst he; simp [List.cons_lt_cons_iff]
      · simp [h, he, List.cons_lt_cons_iff]
@[go_sem] theorem less_slt (a b : List UInt8) : Op.bytesLess (str a).toList (str b).toList = slt a b := by rw [bytes_less, toList_str, toList_str]; rfl
/-- what the document's Put has put, behind so many pairs -/
def putA (c : Ch) (d : Bool) : List Kv.Pr → List Kv.Pr
  | [] => []
  | p :: r => (if d = false ∧ ¬ p.n < c.k then [⟨c.k, c.v⟩] else []) ++ (if p.n = c.k then [] else [p]) ++ putA c (d || decide (¬ p.n < c.k)) r
def doneA (c : Ch) (d : Bool) : List Kv.Pr → Bool
  | [] => d
  | p :: r => doneA c (d || decide (¬ p.n < c.k)) r
theorem putA_end (c : Ch) : ∀ (l : List Kv.Pr) (d : Bool), putG c d l = putA c d l ++ (if doneA c d l then [] else [⟨c.k, c.v⟩])
  | [], d => by unfold putG putA doneA; rfl
  | p :: r, d => by
    unfold putG putA doneA
    rw [putA_end c r]; simp only [List.append_assoc]
theorem putA_step (c : Ch) : ∀ (l : List Kv.Pr) (d : Bool) (p : Kv.Pr), putA c d (l ++ [p]) = putA c d l ++ ((if doneA c d l = false ∧ ¬ p.n < c.k then [⟨c.k, c.v⟩] else []) ++ (if p.n = c.k then [] else [p])) ∧ doneA c d (l ++ [p]) = (doneA c d l || decide (¬ p.n < c.k))
  | [], d, p => by
    refine ⟨?_, rfl⟩
    show (if d = false ∧ ¬ p.n < c.k then [⟨c.k, c.v⟩] else []) ++ (if p.n = c.k then [] else [p]) ++ putA c _ [] = _
    show _ ++ [] = _
    rw [List.append_nil]; rfl
  | x :: r, d, p => by
    obtain ⟨h1, h2⟩ := putA_step c r (d || decide (¬ x.n < c.k)) p
    refine ⟨?_, h2⟩
    show _ ++ putA c _ (r ++ [p]) = (_ ++ putA c _ r) ++ _
    rw [h1]; simp only [List.append_assoc]; rfl
theorem putA_len (c : Ch) : ∀ (l : List Kv.Pr) (d : Bool), (putA c d l).length ≤ 2 * l.length
  | [], _ => Nat.le_refl _
  | p :: r, d => by
    have ih := putA_len c r (d || decide (¬ p.n < c.k))
    unfold putA
    rw [List.length_append, List.length_append, List.length_cons]
    have h1 : (if d = false ∧ ¬ p.n < c.k then [⟨c.k, c.v⟩] else [] : List Kv.Pr).length ≤ 1 := by split <;> simp
    have h2 : (if p.n = c.k then [] else [p] : List Kv.Pr).length ≤ 1 := by split <;> simp
    omega
theorem prFK_of (c : Ch) (h : chF c) : prFK ⟨c.k, c.v⟩ := h
set_option maxRecDepth 20000 in
set_option maxHeartbeats 4000000 in
theorem refPut_any (v : Value) (l : List Kv.Pr) (c : Ch) (w : World) (h : PrsK w v l) (hc : chF c) (hl : l.length ≤ 100000) (hs : Srt l) :
    Calls Tryd.prog 80 #[v, .agg #[.string (str c.k), .string (str c.v), .bool c.g]] w (Ret fun u w' => OwnP w' (fun j => w.heap.size ≤ j) u (put c l) ∧ Ext w w') := by
  have hput := Lib.hid ((putG_eq c hs).symm.trans (putA_end c l c.g))
  obtain ⟨a, cap, rfl, hlm, hget⟩ := h.shape
  have hgh := Lib.hid hget
  clear h hget hs
  obtain ⟨W1, hW1⟩ : ∃ W, W = w.alloc (.cells #[.string (str c.k), .string (str c.v), .bool c.g] 104) := ⟨_, rfl⟩
  obtain ⟨B, hB⟩ : ∃ B, B = w.heap.size := ⟨_, rfl⟩
  have e1 := Lib.hid (show Ext w W1 from by rw [hW1]; exact (Ext.refl w).alloc _)
  have hS := Lib.hid (show ∀ W, Ext W1 W → (W.cell? ⟨B, 0, none⟩ = some (.string (str c.k)) ∧ W.cell? ⟨B, 1, none⟩ = some (.string (str c.v)) ∧ W.cell? ⟨B, 2, none⟩ = some (.bool c.g)) from fun W e => by
    have hb0 : W1.heap[B]? = some (.cells #[.string (str c.k), .string (str c.v), .bool c.g] 104 (0, 0)) := by rw [hW1, hB]; exact heap_alloc_new w _
    exact ⟨cell_at (e.heap hb0) 0 rfl, cell_at (e.heap hb0) 1 rfl, cell_at (e.heap hb0) 2 rfl⟩)
  obtain ⟨K, V, G⟩ := c
  dsimp only at *
  go_enter Tryd.func80, Tryd.ntmps80
  go_upto_region 2 with fail
  rw [← hW1, ← hB]
  obtain ⟨-, -, c2⟩ := hS.out W1 (Ext.refl W1)
  have eW := Ext.refl W1
  clear hW1 hB
  go_wp2
  go_loopw [5, 6, 7] (fun out d i wr => ∃ k : Nat, k ≤ l.length ∧ i = .int .i64 (k : Int) ∧ RowKit.Hid (OwnP wr (fun j => W1.heap.size ≤ j) out (putA ⟨K, V, G⟩ G (l.take k))) ∧ (∃ D : Bool, d = .bool D ∧ RowKit.Hid (D = doneA ⟨K, V, G⟩ G (l.take k))) ∧ Ext W1 wr) (fun _ _ i _ => l.length - (intOf i).toNat)
  case atStart => exact ⟨0, Nat.zero_le _, rfl, Lib.hid (OwnRs.nil _ _), ⟨G, rfl, Lib.hid rfl⟩, eW⟩
  case round =>
    obtain ⟨k, hk, rfl, ho, ⟨D, rfl, hD⟩, ek⟩ := hrel
    clear c2 eW
    by_cases hlt : k < l.length
    · obtain ⟨g, o, rfl, hr, hf⟩ := hgh.out k l[k] (List.getElem?_eq_getElem hlt)
      have hki : (k : Int) < (l.length : Int) := by omega
      have hw : IntKind.i64.wrap ((k : Int) + 1) = (k : Int) + 1 := by rw [IntKind.wrap_i64]; omega
      obtain ⟨s1, s2⟩ := putA_step ⟨K, V, G⟩ (l.take k) G l[k]
      rw [show l.take k ++ [l[k]] = l.take (k + 1) from by rw [List.take_add_one, List.getElem?_eq_getElem hlt]; rfl, ← hD.out] at s1 s2
      have hs1 := Lib.hid s1
      have hs2 := Lib.hid s2
      have hpl := Lib.hid (putA_len ⟨K, V, G⟩ (l.take k) G)
      rw [List.length_take, Nat.min_eq_left (by omega)] at hpl
      have hrW := Lib.hid (show ∀ W, Ext W1 W → W.rangeAt g (o + k * 2) [.string (str l[k].n), .string (str l[k].v)] from fun W e j u hu => (e1.out.trans e).cell (hr j u hu))
      clear hr hD s1 s2
      generalize l[k] = x at *
      generalize putA ⟨K, V, G⟩ G (l.take k) = acc at *
      have c0 : wr.cell? ⟨g, o + k * 2, none⟩ = some (.string (str x.n)) := hrW.out wr ek 0 _ rfl
      obtain ⟨b0, b1, -⟩ := hS.out wr ek
      go_upto_region 6 with fail
      go_cut [27] (fun t wd => t = .bool (!D && !slt x.n K) ∧ Ext W1 wd ∧ Ext wr wd)
      case first =>
        cases D
        · go_quiet (fail)
          go_wp2
          go_meet
          exact ⟨rfl, ek.trans (Ext.drewM wr nq), Ext.drewM wr nq⟩
        · go_quiet (fail)
          go_wp2
          go_meet
          exact ⟨rfl, ek.trans (Ext.drewM wr nq), Ext.drewM wr nq⟩
      case rest =>
        obtain ⟨rfl, e2, er2⟩ := hcut
        obtain ⟨W2, rfl⟩ : ∃ W, W = wc := ⟨_, rfl⟩
        have ho2 := Lib.hid (ho.out.ext er2)
        obtain ⟨ao, co, rfl⟩ := ho.out.shapeN
        clear c0 b0 b1 er2 ho
        go_upto_if 27 with fail
        obtain ⟨acc2, hacc2⟩ : ∃ z, z = acc ++ (if D = false ∧ ¬ x.n < K then [⟨K, V⟩] else []) := ⟨_, rfl⟩
        have hs3 := Lib.hid (show putA ⟨K, V, G⟩ G (l.take (k + 1)) = acc2 ++ (if x.n = K then [] else [x]) from by rw [hs1.out, hacc2, List.append_assoc])
        have hpl2 := Lib.hid (show acc2.length ≤ 2 * k + 1 from by rw [hacc2, List.length_append]; have := hpl.out; have h2 : (if D = false ∧ ¬ x.n < K then [⟨K, V⟩] else [] : List Kv.Pr).length ≤ 1 := by split <;> simp
                                                                   omega)
        have ha2 := Lib.hid hacc2
        clear hacc2 hs1
        go_cut [5, 6] (fun out d wd => RowKit.Hid (OwnP wd (fun j => W1.heap.size ≤ j) out acc2) ∧ d = .bool (D || !slt x.n K) ∧ Ext W1 wd)
        case first =>
          cases hT : (!D && !slt x.n K)
          · have hz := Lib.hid (show acc2 = acc from by
              rw [ha2.out, if_neg (fun h => by
                have h2 : slt x.n K = false := by unfold slt; exact decide_eq_false h.2
                rw [h.1, h2] at hT; cases hT), List.append_nil])
            have hd : (D || !slt x.n K) = D := by
              cases D
              · cases h2 : slt x.n K
                · rw [h2] at hT; cases hT
                · rfl
              · rfl
            clear hT
            go_wp2
            go_meet
            exact ⟨Lib.hid (by rw [hz.out]; exact ho2.out), by rw [hd], e2⟩
          · have hD0 : D = false := by cases D; rfl; simp at hT
            have hsl : slt x.n K = false := by subst hD0; simpa using hT
            have hz := Lib.hid (show acc2 = acc ++ [⟨K, V⟩] from by
              rw [ha2.out, if_pos ⟨hD0, by unfold slt at hsl; exact of_decide_eq_false hsl⟩])
            obtain ⟨b0, b1, -⟩ := hS.out W2 e2
            subst hD0
            clear hT
            go_wp2_with (at_builtin; refine wpList_appendRK Tryd.underlying74 info_prz rfl (by decide) (by decide) prcK_len prcK_one (by decide) rfl (.tmp 28) (.tmp 34) rfl (fun j => W1.heap.size ≤ j) (.slice ao acc.length co) acc rfl (ho2.out.ext ((Ext.refl W2).alloc _)) (.slice (some ⟨W2.heap.size, 0, none⟩) 1 1) [⟨K, V⟩] rfl (Rs.one rfl rfl rfl (prFK_of _ hc)) (by have := hpl.out; simp; omega) ?_; intro v7 w7 o7 g7)
            go_meet
            exact ⟨Lib.hid (by rw [hz.out]; exact o7.mono fun j h => h.elim id fun h => Nat.le_trans (e2.alloc (.cells #[.string (str K), .string (str V)] 76)).size h), by rw [hsl]; rfl, (e2.alloc _).chg g7 fun _ h => h⟩
        case rest =>
          obtain ⟨ho3, rfl, e3⟩ := hcut
          obtain ⟨W3, rfl⟩ : ∃ W, W = wc := ⟨_, rfl⟩
          obtain ⟨a3, c3, rfl⟩ := ho3.out.shapeN
          have hdn := Lib.hid (show (D || !slt x.n K) = doneA ⟨K, V, G⟩ G (l.take (k + 1)) from by
            rw [hs2.out]
            show (D || !decide (x.n < K)) = (D || decide (¬ x.n < K))
            rw [decide_not])
          have c0 : W3.cell? ⟨g, o + k * 2, none⟩ = some (.string (str x.n)) := hrW.out W3 e3 0 _ rfl
          obtain ⟨b0, b1, -⟩ := hS.out W3 e3
          generalize (D || !slt x.n K) = D2 at *
          clear ho2 e2 hs2 ha2
          go_upto_region 9 with fail
          go_quiet (fail)
          have e4 := e3.trans (Ext.drewM W3 nq)
          have ho4 := Lib.hid (ho3.out.ext (Ext.drewM W3 nq))
          clear c0 b0 b1 ho3 e3
          generalize W3.drewN nq = W4 at *
          have hrw4 := hrW.out W4 e4
          cases hq : seq x.n K
          · have hz := Lib.hid (hs3.out.trans (show _ = acc2 ++ [x] by rw [if_neg (seq_false.1 hq)]))
            clear hs3
            go_wp2_with (first
              | (refine wpList_load_mid rfl 76 _ rfl g (o + k * 2) rfl [.string (str x.n), .string (str x.v)] _ hrw4 Tryd.underlying76 rfl info_pr ?_)
              | (at_builtin; refine wpList_appendRK Tryd.underlying74 info_prz rfl (by decide) (by decide) prcK_len prcK_one (by decide) rfl (.tmp 44) (.tmp 49) rfl (fun j => W1.heap.size ≤ j) (.slice a3 acc2.length c3) acc2 rfl (ho4.out.ext ((Ext.refl W4).alloc _)) (.slice (some ⟨W4.heap.size, 0, none⟩) 1 1) [x] rfl (Rs.one rfl rfl rfl hf) (by have := hpl2.out; simp; omega) ?_; intro v7 w7 o7 g7))
            go_roundw
            case rel => exact ⟨k + 1, by omega, by go_num, Lib.hid (by rw [hz.out]; exact o7.mono fun j h => h.elim id fun h => Nat.le_trans (e4.alloc (.cells #[.string (str x.n), .string (str x.v)] 76)).size h), ⟨D2, rfl, hdn⟩, (e4.alloc _).chg g7 fun _ h => h⟩
            case measure => simp [intOf]; omega
          · have hz := Lib.hid (hs3.out.trans (show _ = acc2 by rw [if_pos (seq_true.1 hq), List.append_nil]))
            clear hs3
            go_wp2
            go_roundw
            case rel => exact ⟨k + 1, by omega, by go_num, Lib.hid (by rw [hz.out]; exact ho4.out), ⟨D2, rfl, hdn⟩, e4⟩
            case measure => simp [intOf]; omega
    · obtain rfl : k = l.length := by omega
      rw [List.take_length] at ho hD
      have hp2 := Lib.hid (show put ⟨K, V, G⟩ l = putA ⟨K, V, G⟩ G l ++ (if D then [] else [⟨K, V⟩]) from by rw [hD.out]; exact hput.out)
      have hpl := Lib.hid (putA_len ⟨K, V, G⟩ l G)
      clear hput hD
      generalize putA ⟨K, V, G⟩ G l = acc at *
      obtain ⟨ao, co, rfl⟩ := ho.out.shapeN
      obtain ⟨b0, b1, -⟩ := hS.out wr ek
      cases D
      · go_wp2_with (at_builtin; refine wpList_appendRK Tryd.underlying74 info_prz rfl (by decide) (by decide) prcK_len prcK_one (by decide) rfl (.tmp 53) (.tmp 59) rfl (fun j => W1.heap.size ≤ j) (.slice ao acc.length co) acc rfl (ho.out.ext ((Ext.refl wr).alloc _)) (.slice (some ⟨wr.heap.size, 0, none⟩) 1 1) [⟨K, V⟩] rfl (Rs.one rfl rfl rfl (prFK_of _ hc)) (by have := hpl.out; simp; omega) ?_; intro v7 w7 o7 g7)
        go_ret
        exact Ret.mk ⟨by rw [hp2.out]; exact o7.mono fun j h => h.elim (fun h => Nat.le_trans e1.out.size h) fun h => Nat.le_trans e1.out.size (Nat.le_trans (ek.alloc (.cells #[.string (str K), .string (str V)] 76)).size h), e1.out.trans ((ek.alloc _).chg g7 fun _ h => h)⟩
      · have hp3 := Lib.hid (show put ⟨K, V, G⟩ l = acc from by rw [hp2.out]; simp)
        clear hp2
        go_wp2
        go_ret
        exact Ret.mk ⟨by rw [hp3.out]; exact ho.out.mono fun j h => Nat.le_trans e1.out.size h, e1.out.trans ek⟩
theorem after_len2 (l : List Kv.Pr) (cs : List Ch) (k : Nat) (hk : k ≤ cs.length) : (after l (cs.take k)).length ≤ l.length + cs.length := by
  have h1 := after_len (cs.take k) l
  rw [List.length_take, Nat.min_eq_left hk] at h1
  omega
set_option maxRecDepth 20000 in
set_option maxHeartbeats 2000000 in
theorem refAfter_any (v u : Value) (l : List Kv.Pr) (cs : List Ch) (w : World) (h : PrsK w v l) (hc : Chs w u cs) (hl : l.length + cs.length ≤ 100000) (hs : Srt l) :
    Calls Tryd.prog 51 #[v, u] w (Ret fun r w' => PrsK w' r (after l cs) ∧ Ext w w') := by
  obtain ⟨a, cap, rfl, hlm, hget⟩ := hc.shape
  have hgh := Lib.hid hget
  have hh := Lib.hid h
  have hsh := Lib.hid hs
  have e0 := Ext.refl w
  clear hget hs h
  go_enter Tryd.func51, Tryd.ntmps51
  go_wp2
  go_loopw [0, 5] (fun r i wr => ∃ k : Nat, k ≤ cs.length ∧ i = .int .i64 (k : Int) ∧ RowKit.Hid (PrsK wr r (after l (cs.take k))) ∧ Ext w wr) (fun _ i _ => cs.length - (intOf i).toNat)
  case atStart => exact ⟨0, Nat.zero_le _, rfl, Lib.hid (by rw [List.take_zero]; exact hh.out), e0⟩
  case round =>
    obtain ⟨k, hk, rfl, ho, ek⟩ := hrel
    by_cases hlt : k < cs.length
    · obtain ⟨g, o, rfl, hr, hf⟩ := hgh.out k cs[k] (List.getElem?_eq_getElem hlt)
      have hki : (k : Int) < (cs.length : Int) := by omega
      have hw : IntKind.i64.wrap ((k : Int) + 1) = (k : Int) + 1 := by rw [IntKind.wrap_i64]; omega
      have hnx := Lib.hid (after_take (l := l) hlt)
      have hrw : wr.rangeAt g (o + k * 3) [.string (str cs[k].k), .string (str cs[k].v), .bool cs[k].g] := fun j u hu => ek.cell (hr j u hu)
      have hP := refPut_any _ _ cs[k] wr ho.out hf (by have := after_len2 l cs k hk; omega) (after_srt _ hsh.out)
      generalize cs[k] = x at *
      generalize after l (cs.take k) = L at *
      obtain ⟨ao, co, rfl, -⟩ := ho.out.shape
      clear hr
      go_wp2_with (first
        | (refine wpList_load_mid rfl 104 _ rfl g (o + k * 3) rfl [.string (str x.k), .string (str x.v), .bool x.g] _ hrw Tryd.underlying104 rfl info_ch ?_)
        | (go_at_call 80; refine hP.mono ?_; rintro e w2 ⟨r, rfl, o2, e2⟩))
      go_roundw
      case rel => exact ⟨k + 1, by omega, by go_num, Lib.hid (by rw [hnx.out]; exact o2.rs (by decide) prcK_len), ek.trans e2⟩
      case measure => simp [intOf]; omega
    · obtain rfl : k = cs.length := by omega
      rw [List.take_length] at ho
      go_wp2
      go_ret
      exact Ret.mk ⟨ho.out, ek⟩
end Go.Proofs.YtmdepmohfnficaaDoor
