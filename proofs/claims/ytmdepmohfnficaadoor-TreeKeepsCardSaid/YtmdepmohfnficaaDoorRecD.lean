/- Bytes as records: the program's Decode. -/
import Derived.Test.YtmdepmohfnficaaDoorRecC
import Derived.Laws.ResultCell
import Derived.Deep.RegionHeld3
namespace Go.Proofs.YtmdepmohfnficaaDoor
set_option linter.unusedVariables false
set_option linter.unusedSimpArgs false
open Go.RowKit Rk

namespace Rk
/-- so many texts, and the rest -/
def pn : Nat → List UInt8 → Option (List (List UInt8) × List UInt8)
  | 0, s => some ([], s)
  | n + 1, s => match pt s with
    | none => none
    | some (a, r) => match pn n r with
      | none => none
      | some (l, r') => some (a :: l, r')
theorem pn_step {n : Nat} {s a r : List UInt8} (h : pt s = some (a, r)) : pn (n + 1) s = (pn n r).map fun q => (a :: q.1, q.2) := by
  simp only [pn, h]
  cases pn n r <;> rfl
theorem pn_stop {n : Nat} {s : List UInt8} (h : pt s = none) : pn (n + 1) s = none := by simp only [pn, h]
theorem pn_length : ∀ {n : Nat} {s r : List UInt8} {l : List (List UInt8)}, pn n s = some (l, r) → l.length = n
  | 0, s, r, l, h => by simp only [pn, Option.some.injEq, Prod.mk.injEq] at h; rw [← h.1]; rfl
  | n + 1, s, r, l, h => by
    cases hp : pt s with
    | none => rw [pn_stop hp] at h; cases h
    | some q =>
      rw [pn_step (a := q.1) (r := q.2) hp] at h
      cases hn : pn n q.2 with
      | none => rw [hn] at h; cases h
      | some q' =>
        rw [hn] at h
        simp only [Option.map_some, Option.some.injEq, Prod.mk.injEq] at h
        have := pn_length (n := n) (s := q.2) (r := q'.2) (l := q'.1) hn
        rw [← h.1, List.length_cons, this]
theorem p4_pn (s : List UInt8) : p4 s = match pn 4 s with | some ([a, b, c, d], r) => some (a, b, c, d, r) | _ => none := by
  unfold p4
  simp only [pn]
  cases pt s with
  | none => rfl
  | some q1 =>
    simp only
    cases pt q1.2 with
    | none => rfl
    | some q2 =>
      simp only
      cases pt q2.2 with
      | none => rfl
      | some q3 =>
        simp only
        cases pt q3.2 with
        | none => rfl
        | some q4 => rfl
theorem pt_at {s : List UInt8} (h : (byteAt s 0).toNat < s.length) : pt s = some (sub s 1 (1 + (byteAt s 0).toNat), s.drop (1 + (byteAt s 0).toNat)) := by
  cases s with
  | nil => simp at h
  | cons c t =>
    have hb : byteAt (c :: t) 0 = c := rfl
    rw [hb] at h ⊢
    simp only [List.length_cons] at h
    rw [pt, if_pos (by omega)]
    simp [sub, Nat.add_comm 1]
theorem pt_not {s : List UInt8} (h : s.length ≤ (byteAt s 0).toNat) : pt s = none := by
  cases s with
  | nil => rfl
  | cons c t =>
    have hb : byteAt (c :: t) 0 = c := rfl
    rw [hb] at h
    simp only [List.length_cons] at h
    rw [pt, if_neg (by omega)]
def decR (name s : List UInt8) : Rec := (dec name s).getD zero
def decE (name s : List UInt8) : Int := if (dec name s).isSome then 0 else 8
end Rk

theorem wrapI_byte (c : UInt8) : IntKind.i64.wrap (c.toNat : Int) = (c.toNat : Int) := by have := c.toNat_lt; rw [IntKind.wrap_i64]; omega
/-- block g holds a record: ahead of its four texts, they, behind them -/
def RecB (w : World) (g : Nat) (A : List Value) (T : List (List UInt8)) (B : List Value) : Prop := ∃ cur : Array Value, w.heap[g]? = some (.cells cur 36 (0, 0)) ∧ cur.toList = A ++ (T.map svv ++ B)
theorem RecB.cell {w : World} {g : Nat} {A : List Value} {T : List (List UInt8)} {B : List Value} (h : RecB w g A T B) (j : Nat) (x : List UInt8) (hx : T[j]? = some x) : w.cell? ⟨g, A.length + j, none⟩ = some (.string (str x)) := by
  obtain ⟨cur, h1, h2⟩ := h
  rw [cell_of_row _ _ _ _ _ _ h1]
  have hj : j < T.length := (List.getElem?_eq_some_iff.1 hx).1
  have e : cur.toList[A.length + j]? = some (svv x) := by
    rw [h2, List.getElem?_append_right (by omega), Nat.add_sub_cancel_left, List.getElem?_append_left (by simpa using hj), List.getElem?_map, hx]; rfl
  simpa [svv] using e
theorem RecB.free {w : World} {g : Nat} {A : List Value} {T : List (List UInt8)} {B : List Value} (h : RecB w g A T B) (j : Nat) : w.frozen? ⟨g, j, none⟩ = false := by
  obtain ⟨cur, h1, h2⟩ := h
  simp [World.frozen?, h1]
theorem RecB.set {w : World} {g : Nat} {A : List Value} {T : List (List UInt8)} {B : List Value} (h : RecB w g A T B) (j : Nat) (x : List UInt8) (hj : j < T.length) : RecB (w.setCell ⟨g, A.length + j, none⟩ (.string (str x))) g A (T.set j x) B := by
  obtain ⟨cur, h1, h2⟩ := h
  refine ⟨_, setCell_row w g _ cur _ _ _ h1, ?_⟩
  rw [Array.toList_setIfInBounds, h2, List.set_append_right _ _ (by omega), Nat.add_sub_cancel_left, List.set_append_left _ _ (by simpa using hj), List.map_set]; rfl
theorem RecB.ext {w w' : World} {g : Nat} {A : List Value} {T : List (List UInt8)} {B : List Value} (h : RecB w g A T B) (e : Ext w w') : RecB w' g A T B := by
  obtain ⟨cur, h1, h2⟩ := h
  exact ⟨cur, e.heap h1, h2⟩
theorem two_old (w : World) (A B : Obj) : ((w.alloc A).alloc B).drew.heap[w.heap.size]? = some A := by
  show ((w.heap.push A).push B)[w.heap.size]? = some A
  rw [Array.getElem?_push_lt (by simp)]
  simp
theorem two_new (w : World) (A B : Obj) : ((w.alloc A).alloc B).drew.heap[w.heap.size + 1]? = some B := by
  show ((w.heap.push A).push B)[w.heap.size + 1]? = some B
  have : w.heap.size + 1 = (w.heap.push A).size := by simp
  rw [this]
  exact Array.getElem?_push_size
theorem set_done (done : List (List UInt8)) (j m : Nat) (a : List UInt8) (hd : done.length = j) : (done ++ List.replicate (m + 1) []).set j a = (done ++ [a]) ++ List.replicate m [] := by
  rw [List.set_append_right _ _ (by omega), hd, Nat.sub_self, List.replicate_succ]
  simp
def ptrs (g : Nat) : Array Value := #[.pointer (some ⟨g, 2, none⟩), .pointer (some ⟨g, 3, none⟩), .pointer (some ⟨g, 4, none⟩), .pointer (some ⟨g, 5, none⟩)]
theorem ptrs_at (g j : Nat) (hj : j < 4) : (ptrs g)[j]? = some (.pointer (some ⟨g, 2 + j, none⟩)) := by
  have : j = 0 ∨ j = 1 ∨ j = 2 ∨ j = 3 := by omega
  rcases this with rfl | rfl | rfl | rfl <;> rfl
def zcells : Array Value := #[.int .i64 0, .string (str []), .string (str []), .string (str []), .string (str []), .string (str []), .int .i64 0, .int .i64 0, .int .i64 0, .bool false]
theorem Ext.setRow {a w : World} (h : Ext a w) {g : Nat} (hg : a.heap.size ≤ g) (cs : Array Value) : Ext a (w.setRow g cs) :=
  ⟨h.os, h.tape, h.output, by simpa [World.setRow] using h.size, fun k hk => (setRow_other w g k cs (by omega)).trans (h.block k hk)⟩
theorem results_rec {fn : Func} {p u : Tmp} (h : fn.results = #[.cell p 36, .tmp u]) (tmps : Array Value) (w : World) (g : Nat) (cs : Array Value) (hp : tmps.getD p undef = .pointer (some ⟨g, 0, none⟩)) (hg : w.heap[g]? = some (.cells cs 36 (0, 0))) (hs : (Tryd.prog.info? 36).map (·.size) = some cs.size) :
    (results fn tmps).run Tryd.prog w = .ok (.tuple #[.agg cs, tmps.getD u undef]) w := by
  rw [results_cell_tmp h, hp]
  simp only [asAddr, Sem.run_pure, Result.andThen_ok, run_loadVar_row w g 36 36 cs (0, 0) _ hg Tryd.underlying36 rfl hs]
theorem one_eq (c : UInt8) : ((c.toNat : Int) == 1) = (c == 1) := by
  rw [Bool.eq_iff_iff, beq_iff_eq, beq_iff_eq]
  constructor
  · intro h; apply UInt8.toNat_inj.1; have : (1 : UInt8).toNat = 1 := rfl; omega
  · rintro rfl; rfl
/-- a record's cells -/
def rcells (r : Rec) : Array Value := #[.int .i64 r.kind, .string (str r.name), .string (str r.par), .string (str r.user), .string (str r.serv), .string (str r.url), .int .i64 r.made, .int .i64 r.used, .int .i64 r.uses, .bool r.fresh]
theorem zcells_one : zcells.all (·.oneCell') = true := by simp [zcells, Value.oneCell']
theorem rcells_one (r : Rec) : (rcells r).all (·.oneCell') = true := by simp [rcells, Value.oneCell']
theorem info_rec : (Tryd.prog.info? 36).map (·.size) = some 10 := by kernel_rfl
theorem RecB.cells {w : World} {g : Nat} {name s a b c d : List UInt8} (h : RecB w g [.int .i64 ((byteAt s 0).toNat : Int), .string (str name)] [a, b, c, d] [.int .i64 (S (tb ((s.drop 3).take 8))), .int .i64 (S (tb ((s.drop 11).take 8))), .int .i64 ((byteAt s 1).toNat : Int), .bool (((byteAt s 2).toNat : Int) == 1)]) :
    w.heap[g]? = some (.cells (rcells (raw name s a b c d)) 36 (0, 0)) := by
  obtain ⟨cur, h1, h2⟩ := h
  rw [h1]
  congr 2
  apply Array.ext'
  rw [h2, one_eq]; rfl
attribute [local irreducible] cm isI Tk.pk Tk.pn Tk.pok rightI enc encS encE parI tb S
set_option maxRecDepth 20000 in
set_option maxHeartbeats 4000000 in
theorem decode_any (name s : List UInt8) (hn : name.length ≤ 1000) (hs : s.length ≤ 1000) (w : World) (hw : Pres w) :
    Calls Tryd.prog 73 #[.string (str name), .string (str s)] w fun e w' => e = .returned (.tuple #[recv (decR name s), .int .i64 (decE name s)]) ∧ Ext w w' := by
  have e0 := Ext.refl w
  by_cases h19 : s.length < 19
  · have hE : RowKit.Hid (decR name s = zero ∧ decE name s = 8) := Lib.hid (by unfold decR decE dec; rw [if_pos h19]; exact ⟨rfl, rfl⟩)
    go_enter Tryd.func73, Tryd.ntmps73
    go_wp2
    refine bodyPost_ret (v := .tuple #[recv zero, .int .i64 8]) (by rw [results_cell_tmp rfl]; go_simp; simp [zero]) rfl ⟨by rw [hE.out.1, hE.out.2], e0.alloc _⟩
  · have k3 : ∀ W, (Instr.slice 9 (.string (str s)) (some (.int .i64 3)) none none).run Tryd.prog W = .ok (.string (str (s.drop 3))) W := fun W => run_slice_str_from W _ s .i64 3 Tryd.underlying9 (by omega) (by omega)
    have k11 : ∀ W, (Instr.slice 9 (.string (str s)) (some (.int .i64 11)) none none).run Tryd.prog W = .ok (.string (str (s.drop 11))) W := fun W => run_slice_str_from W _ s .i64 11 Tryd.underlying9 (by omega) (by omega)
    have i0 : ∀ W, (Instr.index 9 (.string (str s)) (.int .i64 0)).run Tryd.prog W = .ok (.int .u8 ((byteAt s 0).toNat : Int)) W := fun W => run_index_str W _ s .i64 0 Tryd.underlying9 (by omega) (by omega)
    have i1 : ∀ W, (Instr.index 9 (.string (str s)) (.int .i64 1)).run Tryd.prog W = .ok (.int .u8 ((byteAt s 1).toNat : Int)) W := fun W => run_index_str W _ s .i64 1 Tryd.underlying9 (by omega) (by omega)
    have i2 : ∀ W, (Instr.index 9 (.string (str s)) (.int .i64 2)).run Tryd.prog W = .ok (.int .u8 ((byteAt s 2).toNat : Int)) W := fun W => run_index_str W _ s .i64 2 Tryd.underlying9 (by omega) (by omega)
    have i1' : (1 : Int) < (s.length : Int) := by omega
    have i2' : (2 : Int) < (s.length : Int) := by omega
    have i0' : (0 : Int) < (s.length : Int) := by omega
    have k3' : (3 : Int) ≤ (s.length : Int) := by omega
    have k11' : (11 : Int) ≤ (s.length : Int) := by omega
    go_enter Tryd.func73, Tryd.ntmps73
    go_upto_region 3 with fail
    go_cut [6] (fun p wd => p = .pointer (some ⟨w.heap.size + 1, 0, none⟩) ∧ Ext w wd ∧ w.heap.size + 2 ≤ wd.heap.size ∧ wd.heap[w.heap.size]? = some (.cells zcells 36 (0, 0)) ∧ RecB wd (w.heap.size + 1) [.int .i64 ((byteAt s 0).toNat : Int), .string (str name)] [[], [], [], []] [.int .i64 (S (tb ((s.drop 3).take 8))), .int .i64 (S (tb ((s.drop 11).take 8))), .int .i64 ((byteAt s 1).toNat : Int), .bool (((byteAt s 2).toNat : Int) == 1)])
    case first =>
      refine wp_region_any (by kernel_rfl) ?_
      try (change wpAny _ _ _ _ _ _ _ (World.drew _))
      refine wpAny_take (i := 0) (v := .string (str name)) rfl (by kernel_rfl) (by kernel_rfl) (by kernel_rfl) (fun _ _ _ h => h) (Or.inl ⟨by rfl, ?_⟩) ?_
      · (intro W; go_simp; try exact wrapI_byte _)
      refine wpAny_take (i := 1) (v := .string (str s)) rfl (by kernel_rfl) (by kernel_rfl) (by kernel_rfl) (fun _ _ _ h => h) (Or.inl ⟨by rfl, ?_⟩) ?_
      · (intro W; go_simp; try exact wrapI_byte _)
      refine wpAny_take (i := 2) (v := .int .u8 ((byteAt s 0).toNat : Int)) rfl (by kernel_rfl) (by kernel_rfl) (by kernel_rfl) (fun _ _ _ h => h) (Or.inl ⟨by rfl, ?_⟩) ?_
      · (intro W; go_simp; try exact wrapI_byte _)
      refine wpAny_take (i := 3) (v := .int .i64 ((byteAt s 0).toNat : Int)) rfl (by kernel_rfl) (by kernel_rfl) (by kernel_rfl) (fun _ _ _ h => h) (Or.inl ⟨by rfl, ?_⟩) ?_
      · (intro W; go_simp; try exact wrapI_byte _)
      refine wpAny_take (i := 4) (v := .string (str s)) rfl (by kernel_rfl) (by kernel_rfl) (by kernel_rfl) (fun _ _ _ h => h) (Or.inl ⟨by rfl, ?_⟩) ?_
      · (intro W; go_simp; try exact wrapI_byte _)
      refine wpAny_take (i := 5) (v := .int .u8 ((byteAt s 1).toNat : Int)) rfl (by kernel_rfl) (by kernel_rfl) (by kernel_rfl) (fun _ _ _ h => h) (Or.inl ⟨by rfl, ?_⟩) ?_
      · (intro W; go_simp; try exact wrapI_byte _)
      refine wpAny_take (i := 6) (v := .int .i64 ((byteAt s 1).toNat : Int)) rfl (by kernel_rfl) (by kernel_rfl) (by kernel_rfl) (fun _ _ _ h => h) (Or.inl ⟨by rfl, ?_⟩) ?_
      · (intro W; go_simp; try exact wrapI_byte _)
      refine wpAny_take (i := 7) (v := .string (str s)) rfl (by kernel_rfl) (by kernel_rfl) (by kernel_rfl) (fun _ _ _ h => h) (Or.inl ⟨by rfl, ?_⟩) ?_
      · (intro W; go_simp; try exact wrapI_byte _)
      refine wpAny_take (i := 8) (v := .int .u8 ((byteAt s 2).toNat : Int)) rfl (by kernel_rfl) (by kernel_rfl) (by kernel_rfl) (fun _ _ _ h => h) (Or.inl ⟨by rfl, ?_⟩) ?_
      · (intro W; go_simp; try exact wrapI_byte _)
      refine wpAny_take (i := 9) (v := .bool (((byteAt s 2).toNat : Int) == 1)) rfl (by kernel_rfl) (by kernel_rfl) (by kernel_rfl) (fun _ _ _ h => h) (Or.inl ⟨by rfl, ?_⟩) ?_
      · (intro W; go_simp; try exact wrapI_byte _)
      refine wpAny_take (i := 10) (v := .string (str s)) rfl (by kernel_rfl) (by kernel_rfl) (by kernel_rfl) (fun _ _ _ h => h) (Or.inl ⟨by rfl, ?_⟩) ?_
      · (intro W; go_simp; try exact wrapI_byte _)
      refine wpAny_take (i := 11) (v := .string (str (s.drop 3))) rfl (by kernel_rfl) (by kernel_rfl) (by kernel_rfl) (fun _ _ _ h => h) (Or.inl ⟨by rfl, ?_⟩) ?_
      · (intro W; go_simp; try exact wrapI_byte _)
      refine wpAny_take (i := 13) (v := .string (str s)) rfl (by kernel_rfl) (by kernel_rfl) (by kernel_rfl) (fun _ _ _ h => h) (Or.inl ⟨by rfl, ?_⟩) ?_
      · (intro W; go_simp; try exact wrapI_byte _)
      refine wpAny_take (i := 14) (v := .string (str (s.drop 11))) rfl (by kernel_rfl) (by kernel_rfl) (by kernel_rfl) (fun _ _ _ h => h) (Or.inl ⟨by rfl, ?_⟩) ?_
      · (intro W; go_simp; try exact wrapI_byte _)
      refine wpAny_ready (rs := [12, 17]) (by kernel_rfl) (by simp) ?_
      refine AllReady.cons rfl (fun K hK => ?_) ?_
      ·
        go_simp
        go_wp2_with (go_at_call 91; refine (told_any _ (by rw [List.length_drop]; omega) (by rw [List.length_drop]; omega) _).mono ?_; rintro e w' ⟨rfl, rfl⟩)
        first | (refine hK _ _ ?_; clear hK K) | skip
        refine wpAny_ready (rs := [15, 17]) (by kernel_rfl) (by simp) ?_
        refine AllReady.cons rfl (fun K hK => ?_) ?_
        ·
          go_simp
          go_wp2_with (go_at_call 91; refine (told_any _ (by rw [List.length_drop]; omega) (by rw [List.length_drop]; omega) _).mono ?_; rintro e w' ⟨rfl, rfl⟩)
          first | (refine hK _ _ ?_; clear hK K) | skip
          refine wpAny_take (i := 16) (v := .agg #[.int .i64 ((byteAt s 0).toNat : Int), .string (str name), .string (str []), .string (str []), .string (str []), .string (str []), .int .i64 (S (tb ((s.drop 3).take 8))), .int .i64 (S (tb ((s.drop 11).take 8))), .int .i64 ((byteAt s 1).toNat : Int), .bool (((byteAt s 2).toNat : Int) == 1)]) rfl (by kernel_rfl) (by kernel_rfl) (by kernel_rfl) (fun _ _ _ h => h) (Or.inl ⟨by rfl, ?_⟩) ?_
          · (intro W; go_simp; try exact wrapI_byte _)
          refine wpAny_ready (rs := [17]) (by kernel_rfl) (by simp) ?_
          refine AllReady.cons rfl (fun K hK => ?_) ?_
          ·
            go_simp
            first | (refine hK _ _ ?_; clear hK K) | skip
            refine wpAny_ready (rs := [18]) (by kernel_rfl) (by simp) ?_
            refine AllReady.cons rfl (fun K hK => ?_) ?_
            ·
              go_simp
              first | (refine hK _ _ ?_; clear hK K) | skip
              refine wpAny_done (by kernel_rfl) ?_ _
              go_wp2
              go_meet
              case rel => exact ⟨rfl, ((e0.alloc _).alloc _).drew, by simp, two_old _ _ _, ⟨_, two_new _ _ _, rfl⟩⟩
            exact AllReady.nil
          exact AllReady.nil
        refine AllReady.cons rfl (fun K hK => ?_) ?_
        ·
          go_simp
          first | (refine hK _ _ ?_; clear hK K) | skip
          refine wpAny_ready (rs := [15]) (by kernel_rfl) (by simp) ?_
          refine AllReady.cons rfl (fun K hK => ?_) ?_
          ·
            go_simp
            go_wp2_with (go_at_call 91; refine (told_any _ (by rw [List.length_drop]; omega) (by rw [List.length_drop]; omega) _).mono ?_; rintro e w' ⟨rfl, rfl⟩)
            first | (refine hK _ _ ?_; clear hK K) | skip
            refine wpAny_take (i := 16) (v := .agg #[.int .i64 ((byteAt s 0).toNat : Int), .string (str name), .string (str []), .string (str []), .string (str []), .string (str []), .int .i64 (S (tb ((s.drop 3).take 8))), .int .i64 (S (tb ((s.drop 11).take 8))), .int .i64 ((byteAt s 1).toNat : Int), .bool (((byteAt s 2).toNat : Int) == 1)]) rfl (by kernel_rfl) (by kernel_rfl) (by kernel_rfl) (fun _ _ _ h => h) (Or.inl ⟨by rfl, ?_⟩) ?_
            · (intro W; go_simp; try exact wrapI_byte _)
            refine wpAny_ready (rs := [18]) (by kernel_rfl) (by simp) ?_
            refine AllReady.cons rfl (fun K hK => ?_) ?_
            ·
              go_simp
              first | (refine hK _ _ ?_; clear hK K) | skip
              refine wpAny_done (by kernel_rfl) ?_ _
              go_wp2
              go_meet
              case rel => exact ⟨rfl, ((e0.alloc _).alloc _).drew, by simp, two_old _ _ _, ⟨_, two_new _ _ _, rfl⟩⟩
            exact AllReady.nil
          exact AllReady.nil
        exact AllReady.nil
      refine AllReady.cons rfl (fun K hK => ?_) ?_
      ·
        go_simp
        first | (refine hK _ _ ?_; clear hK K) | skip
        refine wpAny_ready (rs := [12]) (by kernel_rfl) (by simp) ?_
        refine AllReady.cons rfl (fun K hK => ?_) ?_
        ·
          go_simp
          go_wp2_with (go_at_call 91; refine (told_any _ (by rw [List.length_drop]; omega) (by rw [List.length_drop]; omega) _).mono ?_; rintro e w' ⟨rfl, rfl⟩)
          first | (refine hK _ _ ?_; clear hK K) | skip
          refine wpAny_ready (rs := [15]) (by kernel_rfl) (by simp) ?_
          refine AllReady.cons rfl (fun K hK => ?_) ?_
          ·
            go_simp
            go_wp2_with (go_at_call 91; refine (told_any _ (by rw [List.length_drop]; omega) (by rw [List.length_drop]; omega) _).mono ?_; rintro e w' ⟨rfl, rfl⟩)
            first | (refine hK _ _ ?_; clear hK K) | skip
            refine wpAny_take (i := 16) (v := .agg #[.int .i64 ((byteAt s 0).toNat : Int), .string (str name), .string (str []), .string (str []), .string (str []), .string (str []), .int .i64 (S (tb ((s.drop 3).take 8))), .int .i64 (S (tb ((s.drop 11).take 8))), .int .i64 ((byteAt s 1).toNat : Int), .bool (((byteAt s 2).toNat : Int) == 1)]) rfl (by kernel_rfl) (by kernel_rfl) (by kernel_rfl) (fun _ _ _ h => h) (Or.inl ⟨by rfl, ?_⟩) ?_
            · (intro W; go_simp; try exact wrapI_byte _)
            refine wpAny_ready (rs := [18]) (by kernel_rfl) (by simp) ?_
            refine AllReady.cons rfl (fun K hK => ?_) ?_
            ·
              go_simp
              first | (refine hK _ _ ?_; clear hK K) | skip
              refine wpAny_done (by kernel_rfl) ?_ _
              go_wp2
              go_meet
              case rel => exact ⟨rfl, ((e0.alloc _).alloc _).drew, by simp, two_old _ _ _, ⟨_, two_new _ _ _, rfl⟩⟩
            exact AllReady.nil
          exact AllReady.nil
        exact AllReady.nil
      exact AllReady.nil
    case rest =>
      obtain ⟨rfl, eW, hW2, hz, hr⟩ := hcut
      obtain ⟨g6, hg6⟩ : ∃ g, g = w.heap.size + 1 := ⟨_, rfl⟩
      rw [← hg6] at hr ⊢
      have k19 : ∀ W, (Instr.slice 9 (.string (str s)) (some (.int .i64 19)) none none).run Tryd.prog W = .ok (.string (str (s.drop 19))) W := fun W => run_slice_str_from W _ s .i64 19 Tryd.underlying9 (by omega) (by omega)
      obtain ⟨vk, hvk⟩ : ∃ v : Value, v = .int .i64 ((byteAt s 0).toNat : Int) := ⟨_, rfl⟩
      obtain ⟨B, hB⟩ : ∃ B : List Value, B = [.int .i64 (S (tb ((s.drop 3).take 8))), .int .i64 (S (tb ((s.drop 11).take 8))), .int .i64 ((byteAt s 1).toNat : Int), .bool (((byteAt s 2).toNat : Int) == 1)] := ⟨_, rfl⟩
      rw [← hvk, ← hB] at hr
      have hvk2 := Lib.hid hvk
      have hB2 := Lib.hid hB
      have hg62 := Lib.hid hg6
      clear k3 k11 i0 i1 i2 i0' i1' i2' k3' k11' hvk hB hg6
      go_wp2
      have hl0 : (wc.alloc (.cells (ptrs g6) 118)).heap[wc.heap.size]? = some (.cells (ptrs g6) 118 (0, 0)) := heap_alloc_new wc _
      have eP := (Ext.refl wc).alloc (.cells (ptrs g6) 118)
      have hA : ([vk, .string (str name)] : List Value).length = 2 := rfl
      obtain ⟨A, hAe⟩ : ∃ A : List Value, A = [vk, .string (str name)] := ⟨_, rfl⟩
      rw [← hAe] at hr hA
      have hA2 := Lib.hid hAe
      have hAl := Lib.hid hA
      clear hAe hA
      go_loopw [7, 42] (fun rest i wr => ∃ (j : Nat) (r : List UInt8) (done : List (List UInt8)), j ≤ 4 ∧ i = .int .i64 j ∧ rest = .string (str r) ∧ r.length ≤ 1000 ∧ done.length = j ∧ RowKit.Hid (∀ x ∈ done, x.length ≤ 1000) ∧ RecB wr g6 A (done ++ List.replicate (4 - j) []) B ∧ Ext w wr ∧ wr.heap[w.heap.size]? = some (.cells zcells 36 (0, 0)) ∧ wr.heap[wc.heap.size]? = some (.cells (ptrs g6) 118 (0, 0)) ∧ RowKit.Hid (pn 4 (s.drop 19) = (pn (4 - j) r).map fun q => (done ++ q.1, q.2))) (fun _ i _ => 4 - (intOf i).toNat)
      case atStart => exact ⟨0, s.drop 19, [], Nat.zero_le _, rfl, rfl, by rw [List.length_drop]; omega, rfl, Lib.hid (by simp), hr.ext eP, eW.trans eP, eP.heap hz, hl0, Lib.hid (by cases pn 4 (s.drop 19) <;> rfl)⟩
      case round =>
        obtain ⟨j, r, done, hj, rfl, rfl, hrl, hdl, hds, hr, ek, hz, hl, hP⟩ := hrel
        by_cases hlt : j < 4
        · have cj : wr.cell? ⟨wc.heap.size, j, none⟩ = some (.pointer (some ⟨g6, 2 + j, none⟩)) := by rw [cell_of_row _ _ _ _ _ _ hl, ptrs_at _ _ hlt]
          have hT : (done ++ List.replicate (4 - j) ([] : List UInt8))[j]? = some [] := by
            rw [List.getElem?_append_right (by omega), hdl, Nat.sub_self, show 4 - j = (3 - j) + 1 by omega, List.replicate_succ]; rfl
          have cT := hr.cell j [] hT
          have fT := hr.free (2 + j)
          rw [hAl.out] at cT
          by_cases hfit : (byteAt r 0).toNat < r.length
          · have hpos : 0 < r.length := by omega
            have hne : seq r [] = false := seq_false.2 (by intro e; subst e; simp at hpos)
            have hpt : RowKit.Hid (pt r = some (sub r 1 (1 + (byteAt r 0).toNat), r.drop (1 + (byteAt r 0).toNat))) := Lib.hid (pt_at hfit)
            have hn1 := (byteAt r 0).toNat_lt
            have hfit2 : ((byteAt r 0).toNat : Int) < (r.length : Int) := by omega
            have hpos2 : (0 : Int) < (r.length : Int) := by omega
            have hs1 : ∀ W, (Instr.slice 9 (.string (str r)) (some (.int .i64 1)) (some (.int .i64 (1 + ((byteAt r 0).toNat : Int)))) none).run Tryd.prog W = .ok (.string (str (sub r 1 (1 + (byteAt r 0).toNat)))) W := fun W => by
              have := run_slice_str (P := Tryd.prog) W 9 r .i64 .i64 1 (1 + ((byteAt r 0).toNat : Int)) Tryd.underlying9 (by omega) (by omega) (by omega)
              rw [this]
              congr 3
            have hs2 : ∀ W, (Instr.slice 9 (.string (str r)) (some (.int .i64 (1 + ((byteAt r 0).toNat : Int)))) none none).run Tryd.prog W = .ok (.string (str (r.drop (1 + (byteAt r 0).toNat)))) W := fun W => by
              have := run_slice_str_from (P := Tryd.prog) W 9 r .i64 (1 + ((byteAt r 0).toNat : Int)) Tryd.underlying9 (by omega) (by omega)
              rw [this]
              congr 3
            have hP2 : RowKit.Hid (pn 4 (s.drop 19) = (pn (4 - (j + 1)) (r.drop (1 + (byteAt r 0).toNat))).map fun q => ((done ++ [sub r 1 (1 + (byteAt r 0).toNat)]) ++ q.1, q.2)) := Lib.hid (by
              rw [hP.out, show 4 - j = (4 - (j + 1)) + 1 by omega, pn_step hpt.out]
              cases pn (4 - (j + 1)) (r.drop (1 + (byteAt r 0).toNat)) <;> simp)
            have hr2 := hr.set j (sub r 1 (1 + (byteAt r 0).toNat)) (by simp; omega)
            rw [hAl.out, show 4 - j = (4 - (j + 1)) + 1 by omega, set_done done j _ _ hdl] at hr2
            have hr3 := Lib.hid hr2
            clear hr2
            go_wp2
            go_region
            go_wp2
            go_roundw
            case rel =>
              have hg := hg62.out
              refine ⟨j + 1, _, _, by omega, by go_num, rfl, by rw [List.length_drop]; omega, by simp; omega, Lib.hid ?_, hr3.out, (ek.setCell (by simp; omega) _).drew, ?_, ?_, hP2⟩
              · intro x hx
                rcases List.mem_append.1 hx with h | h
                · exact hds.out x h
                · rw [List.mem_singleton] at h
                  rw [h]; unfold sub; rw [List.length_drop, List.length_take]; omega
              · exact (Below.heap_setCell wr _ _ _ (by simp; omega)).trans hz
              · exact (Below.heap_setCell wr _ _ _ (by simp; omega)).trans hl
            case measure => simp [intOf]; omega
          · have hno : RowKit.Hid (decR name s = zero ∧ decE name s = 8) := Lib.hid (by
              have h0 : pn 4 (s.drop 19) = none := by rw [hP.out, show 4 - j = (4 - (j + 1)) + 1 by omega, pn_stop (pt_not (by omega))]; rfl
              have h1 : dec name s = none := by unfold dec; rw [if_neg (by omega), p4_pn, h0]
              unfold decR decE; rw [h1]; exact ⟨rfl, rfl⟩)
            have hf2 : (r.length : Int) ≤ ((byteAt r 0).toNat : Int) := by omega
            by_cases hr0 : r = []
            · have hq : seq r [] = true := seq_true.2 hr0
              go_wp2_with (refine wpList_store_row rfl 36 _ _ rfl w.heap.size zcells rfl rfl 36 zcells hz info_rec rfl zcells_one ?_)
              (try simp only [Exit.inBlock, Exit.then])
              refine bodyPost_ret (results_rec rfl _ _ w.heap.size zcells rfl (setRow_heap wr w.heap.size zcells zcells _ _ hz) info_rec) rfl ⟨by rw [hno.out.1, hno.out.2]; rfl, ek.setRow (Nat.le_refl _) _⟩
            · have hq : seq r [] = false := seq_false.2 hr0
              have hpos : 0 < r.length := by cases r with | nil => exact absurd rfl hr0 | cons _ _ => simp
              have hpos2 : (0 : Int) < (r.length : Int) := by omega
              go_wp2_with (refine wpList_store_row rfl 36 _ _ rfl w.heap.size zcells rfl rfl 36 zcells hz info_rec rfl zcells_one ?_)
              (try simp only [Exit.inBlock, Exit.then])
              refine bodyPost_ret (results_rec rfl _ _ w.heap.size zcells rfl (setRow_heap wr w.heap.size zcells zcells _ _ hz) info_rec) rfl ⟨by rw [hno.out.1, hno.out.2]; rfl, ek.setRow (Nat.le_refl _) _⟩
        · obtain rfl : j = 4 := by omega
          obtain ⟨a, b, c, d, rfl⟩ : ∃ a b c d, done = [a, b, c, d] := by
            match done, hdl with
            | [a, b, c, d], _ => exact ⟨a, b, c, d, rfl⟩
          rw [hA2.out, hvk2.out, hB2.out] at hr
          have hg : wr.heap[g6]? = some (.cells (rcells (raw name s a b c d)) 36 (0, 0)) := RecB.cells hr
          have hp4 : p4 (s.drop 19) = some (a, b, c, d, r) := by rw [p4_pn, hP.out]; rfl
          have hD : RowKit.Hid (dec name s = if rightI (raw name s a b c d) && enc (raw name s a b c d) == s then some (raw name s a b c d) else none) := Lib.hid (by unfold dec; rw [if_neg (by omega), hp4])
          have hF : Fits (raw name s a b c d) := ⟨by unfold raw; simp only; omega, by unfold raw; simp only; have := hds.out a (by simp); omega, by unfold raw; simp only; have := hds.out b (by simp); omega, by unfold raw; simp only; have := hds.out c (by simp); omega, by unfold raw; simp only; have := hds.out d (by simp); omega⟩
          have henc := encode_any (raw name s a b c d) hF
          clear hr hp4 hP hds
          generalize hR : raw name s a b c d = R at *
          cases hri : rightI R
          · have hno : RowKit.Hid (decR name s = zero ∧ decE name s = 8) := Lib.hid (by unfold decR decE; rw [hD.out, hri]; exact ⟨rfl, rfl⟩)
            have hq1 : encE R = 1 := by unfold encE; rw [hri]; rfl
            go_wp2_with (first
              | (refine wpList_load_row rfl 36 _ rfl g6 rfl 36 (rcells R) (0, 0) _ hg Tryd.underlying36 rfl info_rec ?_)
              | (go_at_call 75; refine (henc _ (hw.ext ek)).mono ?_; rintro e w2 ⟨rfl, e2⟩; have hz2 := e2.heap hz; have ek2 := ek.trans e2)
              | (refine wpList_store_row rfl 36 _ _ rfl w.heap.size zcells rfl rfl 36 zcells hz2 info_rec rfl zcells_one ?_))
            (try simp only [Exit.inBlock, Exit.then])
            refine bodyPost_ret (results_rec rfl _ _ w.heap.size zcells rfl (setRow_heap w2 w.heap.size zcells zcells _ _ hz2) info_rec) rfl ⟨by rw [hno.out.1, hno.out.2]; rfl, ek2.setRow (Nat.le_refl _) _⟩
          · have hq1 : encE R = 0 := by unfold encE; rw [hri]; rfl
            have hq2 : encS R = enc R := by unfold encS; rw [hri]; rfl
            cases hse : seq (enc R) s
            · have hno : RowKit.Hid (decR name s = zero ∧ decE name s = 8) := Lib.hid (by
                unfold decR decE; rw [hD.out, hri]
                have : (enc R == s) = false := hse
                rw [this]; exact ⟨rfl, rfl⟩)
              go_wp2_with (first
                | (refine wpList_load_row rfl 36 _ rfl g6 rfl 36 (rcells R) (0, 0) _ hg Tryd.underlying36 rfl info_rec ?_)
                | (go_at_call 75; refine (henc _ (hw.ext ek)).mono ?_; rintro e w2 ⟨rfl, e2⟩; have hz2 := e2.heap hz; have ek2 := ek.trans e2)
                | (refine wpList_store_row rfl 36 _ _ rfl w.heap.size zcells rfl rfl 36 zcells hz2 info_rec rfl zcells_one ?_))
              (try simp only [Exit.inBlock, Exit.then])
              refine bodyPost_ret (results_rec rfl _ _ w.heap.size zcells rfl (setRow_heap w2 w.heap.size zcells zcells _ _ hz2) info_rec) rfl ⟨by rw [hno.out.1, hno.out.2]; rfl, ek2.setRow (Nat.le_refl _) _⟩
            · have hyes : RowKit.Hid (decR name s = R ∧ decE name s = 0) := Lib.hid (by
                unfold decR decE; rw [hD.out, hri]
                have : (enc R == s) = true := hse
                rw [this]; exact ⟨rfl, rfl⟩)
              go_wp2_with (first
                | (refine wpList_load_row rfl 36 _ rfl g6 rfl 36 (rcells R) (0, 0) _ (by first | exact hg | exact hg2) Tryd.underlying36 rfl info_rec ?_)
                | (go_at_call 75; refine (henc _ (hw.ext ek)).mono ?_; rintro e w2 ⟨rfl, e2⟩; have hz2 := e2.heap hz; have ek2 := ek.trans e2; have hg2 := e2.heap hg)
                | (refine wpList_store_row rfl 36 _ _ rfl w.heap.size (rcells R) rfl rfl 36 zcells hz2 info_rec rfl (rcells_one R) ?_))
              (try simp only [Exit.inBlock, Exit.then])
              refine bodyPost_ret (results_rec rfl _ _ w.heap.size (rcells R) rfl (setRow_heap w2 w.heap.size zcells (rcells R) _ _ hz2) info_rec) rfl ⟨by rw [hyes.out.1, hyes.out.2]; rfl, ek2.setRow (Nat.le_refl _) _⟩
end Go.Proofs.YtmdepmohfnficaaDoor
