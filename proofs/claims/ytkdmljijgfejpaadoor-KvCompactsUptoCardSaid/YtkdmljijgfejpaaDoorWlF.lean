/- The log: put: the calls are laid. -/
import Derived.Test.YtkdmljijgfejpaaDoorWlD
import Derived.Test.YtkdmljijgfejpaaDoorWlE
namespace Go.Proofs.YtkdmljijgfejpaaDoor
set_option linter.unusedVariables false
set_option linter.unusedSimpArgs false
open Go.RowKit Dk Wl Fr

/-! ### calls, one behind the other -/
namespace Wl
theorem run_append : ∀ (a b : List C) (d : D), run (a ++ b) d = if (run a d).1 then run b (run a d).2 else run a d
  | [], _, _ => by simp [run]
  | c :: a, b, d => by
    show (if cE c d = 0 then run (a ++ b) (cD c d) else (false, drop (cD c d))) = _
    by_cases h : cE c d = 0
    · have e : run (c :: a) d = run a (cD c d) := if_pos h
      rw [if_pos h, run_append a b, e]
    · have e : run (c :: a) d = (false, drop (cD c d)) := if_neg h
      rw [if_neg h, e]; rfl
theorem run_one (c : C) (d : D) : run [c] d = if cE c d = 0 then (true, cD c d) else (false, drop (cD c d)) := rfl
theorem run_next {cs : List C} {j : Nat} {c : C} {d dj : D} (hc : cs[j]? = some c) (hr : run (cs.take j) d = (true, dj)) (h0 : cE c dj = 0) : run (cs.take (j + 1)) d = (true, cD c dj) := by
  rw [List.take_add_one, hc, run_append, hr]
  show run [c] dj = _
  rw [run_one, if_pos h0]
theorem run_bad {cs : List C} {j : Nat} {c : C} {d dj : D} (hc : cs[j]? = some c) (hr : run (cs.take j) d = (true, dj)) (h0 : cE c dj ≠ 0) : run cs d = (false, drop (cD c dj)) := by
  have h1 : run (cs.take (j + 1)) d = (false, drop (cD c dj)) := by
    rw [List.take_add_one, hc, run_append, hr]
    show run [c] dj = _
    rw [run_one, if_neg h0]
  have h2 := run_append (cs.take (j + 1)) (cs.drop (j + 1)) d
  rw [List.take_append_drop, h1] at h2
  exact h2
theorem cD_len (c : C) (d : D) : (cD c d).st.length ≤ d.st.length + 1 := by
  cases c with
  | wr i b =>
    show (wrB _ _ _).st.length ≤ _
    unfold wrB
    split
    · omega
    · split
      · omega
      · split
        · rw [after_st]; omega
        · simp only [after_st, List.length_append, List.length_cons, List.length_nil]; omega
  | sy =>
    show (sync d).st.length ≤ _
    unfold sync
    split
    · rw [after_st]; omega
    · simp
theorem calls_wr {m : Nat} {h : H} {u : List UInt8} {i0 j : Nat} (hj : j < nb u - i0) : (calls m h u i0)[j]? = some (.wr (2 + h.area * m + (i0 + j)) (part u (i0 + j))) := by
  unfold calls
  rw [List.getElem?_append_left (by rw [wrs_length]; exact hj)]
  unfold wrs
  rw [List.getElem?_map, List.getElem?_range' hj]
  simp
theorem calls_end {m : Nat} {h : H} {u : List UInt8} {i0 j n : Nat} (hn : n = nb u - i0) : (calls m h u i0)[n + j]? = ([.sy, .wr (h.gen % 2) (hb h), .sy] : List C)[j]? := by
  unfold calls
  rw [List.getElem?_append_right (by rw [wrs_length]; omega), wrs_length, hn]
  congr 1; omega
theorem putL_ok {h' h : H} {u' u : List UInt8} {i0 : Nat} {d dj : D} (hr : run (calls (areaN d.n) h' u' i0) d = (true, dj)) : putL h' u' i0 ⟨d, h, u⟩ = (0, ⟨dj, h', u'⟩) := by
  unfold putL; rw [hr]; rfl
theorem putL_bad {h' h : H} {u' u : List UInt8} {i0 : Nat} {d dj : D} (hr : run (calls (areaN d.n) h' u' i0) d = (false, dj)) : putL h' u' i0 ⟨d, h, u⟩ = (21, ⟨dj, h, u⟩) := by
  unfold putL; rw [hr]; rfl
end Wl
/-- what is called -/
inductive Cl where
  | wr (a b : Nat)
  | sy
  | hd
def cenc (B4 B5 p : Nat) : Cl → Value
  | .wr a b => .func (.func 70) #[] #[.pointer (some ⟨B4, 0, none⟩), .pointer (some ⟨a, 0, none⟩), .pointer (some ⟨b, 0, none⟩)]
  | .sy => .func (.func 72) #[.pointer (some ⟨p, 0, none⟩)] #[]
  | .hd => .func (.func 73) #[] #[.pointer (some ⟨B4, 0, none⟩), .pointer (some ⟨B5, 0, none⟩)]
theorem cenc_one (B4 B5 p : Nat) (x : Cl) : (cenc B4 B5 p x).oneCell' = true := by cases x <;> rfl
theorem info_fn : (Tryd.prog.info? 59).map (fun i => (i.zero, i.size, i.bytes)) = some (some .nilFunc, 1, 8) := by kernel_rfl
/-- a closure that writes a part: its boxes -/
def WrAt (W : World) (base : Nat) (vb : Option Nat) (i : Nat) (b : List UInt8) : Cl → Prop
  | .wr Ba Bp => base ≤ Ba ∧ base ≤ Bp ∧ Boxed W Ba 3 (.int .i64 (i : Int)) ∧ ∃ v, Boxed W Bp 23 v ∧ Bytes W v b ∧ ∀ k, vblk v = some k → b ≠ [] → vb = some k
  | _ => False
theorem WrAt.ext {W W' : World} {base : Nat} {vb : Option Nat} {i : Nat} {b : List UInt8} {x : Cl} (h : WrAt W base vb i b x) (e : Ext W W') : WrAt W' base vb i b x := by
  cases x with
  | wr Ba Bp =>
    obtain ⟨h1, h2, h3, v, h4, h5, h6⟩ := h
    exact ⟨h1, h2, e.heap h3, v, e.heap h4, h5.ext e, h6⟩
  | sy => exact h
  | hd => exact h
/-- the parts' writes, laid -/
def Laid1 (W : World) (base : Nat) (vb : Option Nat) (b0 i0 : Nat) (u : List UInt8) (ks : List Cl) : Prop := ∀ t x, ks[t]? = some x → WrAt W base vb (b0 + (i0 + t)) (Wl.part u (i0 + t)) x
theorem Laid1.ext {W W' : World} {base : Nat} {vb : Option Nat} {b0 i0 : Nat} {u : List UInt8} {ks : List Cl} (h : Laid1 W base vb b0 i0 u ks) (e : Ext W W') : Laid1 W' base vb b0 i0 u ks := fun t x hx => (h t x hx).ext e
theorem Laid1.snoc {W : World} {base : Nat} {vb : Option Nat} {b0 i0 : Nat} {u : List UInt8} {ks : List Cl} (h : Laid1 W base vb b0 i0 u ks) {x : Cl} (hx : WrAt W base vb (b0 + (i0 + ks.length)) (Wl.part u (i0 + ks.length)) x) : Laid1 W base vb b0 i0 u (ks ++ [x]) := fun t y hy => by
  by_cases ht : t < ks.length
  · rw [List.getElem?_append_left ht] at hy; exact h t y hy
  · have hl := (List.getElem?_eq_some_iff.1 hy).1
    rw [List.length_append, List.length_singleton] at hl
    obtain rfl : t = ks.length := by omega
    rw [List.getElem?_append_right (Nat.le_refl _), Nat.sub_self] at hy
    cases hy
    exact hx
theorem Laid1.grown {W W' : World} {base base2 : Nat} {vb : Option Nat} {b0 i0 B4 B5 p : Nat} {u : List UInt8} {ks ks' : List Cl} {v : Value} (h : Laid1 W base vb b0 i0 u ks) (ho : Own (cenc B4 B5 p) 59 W base2 v ks') (g : W.grownBy W' v.ownBlock) (hb : ∀ k, vb = some k → k < base2) : Laid1 W' base vb b0 i0 u ks := fun t x hx => by
  have hw := h t x hx
  cases x with
  | wr Ba Bp =>
    obtain ⟨h1, h2, h3, y, h4, h5, h6⟩ := hw
    have n3 := Boxed.not_row h3 (by decide) ho
    have n4 := Boxed.not_row h4 (by decide) ho
    refine ⟨h1, h2, (g.block _ (Boxed.lt h3) n3).trans h3, y, (g.block _ (Boxed.lt h4) n4).trans h4, h5.grown g (fun k hk hl e => ?_), h6⟩
    have := hb k (h6 k hk hl)
    have := ho.lt k e
    omega
  | sy => exact hw
  | hd => exact hw
theorem part_bytes {w : World} {av : Option Addr} {cv : Nat} {u : List UInt8} {I : Nat} (h : Bytes w (.slice av u.length cv) u) (hI : 32 * I < u.length) :
    Bytes w (.slice (Option.map (fun x => x.add (I * 32)) av) ((if ((I : Int) + 1) * 32 < (u.length : Int) then ((I : Int) + 1) * 32 else (u.length : Int)).toNat - I * 32) (cv - I * 32)) (Wl.part u I) := by
  obtain ⟨g, o, rfl⟩ := h.ad (by omega)
  have hE : ((if ((I : Int) + 1) * 32 < (u.length : Int) then ((I : Int) + 1) * 32 else (u.length : Int)).toNat - I * 32) = min 32 (u.length - 32 * I) := by
    split <;> omega
  have hp := h.pc (I * 32) (min 32 (u.length - 32 * I)) (by omega)
  have hpt : (u.drop (I * 32)).take (min 32 (u.length - 32 * I)) = Wl.part u I := by
    unfold Wl.part
    rw [Nat.mul_comm I 32]
    by_cases hc : 32 ≤ u.length - 32 * I
    · rw [Nat.min_eq_left hc]
    · rw [Nat.min_eq_right (by omega), List.take_of_length_le (by rw [List.length_drop]; omega), List.take_of_length_le (by rw [List.length_drop]; omega)]
  rw [hpt] at hp
  rw [hE, Option.map_some, Addr.add_lit]
  exact hp
theorem vblk_map (av : Option Addr) (n c n' c' k i : Nat) (h : vblk (.slice (Option.map (fun x => x.add i) av) n c) = some k) : vblk (.slice av n' c') = some k := by
  cases av with
  | none => cases h
  | some a =>
    obtain ⟨g, o, s⟩ := a
    unfold Addr.add at h
    split at h <;> simp_all [vblk]
theorem step_appendK {B4 B5 p : Nat} {ops : Array Oper} {o : Oper} {a : Act} {w : World} {K : Act → World → Prop} {Q : Exit → Act → World → Prop} {E : Prop} (hgd : o.guard = none) (s x : Operand)
    (ho : o.op = .call { callee := .builtin .append, args := #[s, x], argTypes := #[122, 122] })
    (base : Nat) (v : Value) (l : List Cl) (hs : a.eval s = v) (hown : Own (cenc B4 B5 p) 59 w base v l) (u : Value) (m : List Cl) (hx : a.eval x = u) (hb : Sl (cenc B4 B5 p) w u m)
    (hlen : l.length + m.length ≤ 1048576) (hbase : base ≤ w.heap.size)
    (h : ∀ v' w', Own (cenc B4 B5 p) 59 w' base v' (l ++ m) → w.grownBy w' v.ownBlock → K (a.put o.dst v') w') :
    if Region.wanted o (yielded ops a.tmps) = true then Oper.wp Tryd.prog o a w K Q else E := by
  have hw : Region.wanted o (yielded ops a.tmps) = true := by simp [Region.wanted, hgd]
  rw [if_pos hw]
  exact wp_appendS (z := .nilFunc) (bytes := 8) Tryd.underlying122 info_fn rfl (cenc_one _ _ _) s x ho base v l hs hown u m hx hb (by omega) (by omega) hbase h
theorem I_small {u : List UInt8} {I i0 fr m : Nat} (h : I ≤ max i0 (nb u)) (hi : i0 = fr / 32) (hf : fr ≤ u.length) (hu : u.length ≤ 32 * m) (hm : m ≤ 256) : I ≤ 300 := by unfold nb at h; omega
theorem wrap32 {I : Nat} (h : I ≤ 300) : IntKind.i64.wrap ((I : Int) * 32) = (I : Int) * 32 := wrap_le (by omega) (by omega)
theorem not32 {I n : Nat} (h : ¬ 32 * I < n) : ¬ (I : Int) * 32 < (n : Int) := by omega
theorem nb_more {u : List UInt8} {I i0 : Nat} (h : 32 * I < u.length) : I + 1 ≤ max i0 (nb u) := by unfold nb; omega
theorem nb_done {u : List UInt8} {I i0 n : Nat} (h : ¬ 32 * I < u.length) (h2 : I ≤ max i0 (nb u)) (h3 : I = i0 + n) : n = nb u - i0 := by unfold nb at *; omega
theorem step_storeH {ops : Array Oper} {o : Oper} {a : Act} {w : World} {K : Act → World → Prop} {Q : Exit → Act → World → Prop} {E : Prop} (hgd : o.guard = none) (x y : Operand) (ho : o.op = .store 97 x y)
    (q p : Nat) (h0 : H) (vu : Value) (hx : a.eval x = .pointer (some ⟨q, 1, none⟩)) (G A U : Nat) (hy : a.eval y = .agg #[.int .i64 (G : Int), .int .i64 (A : Int), .int .i64 (U : Int)]) (hl : LogAt w q p h0 vu)
    (h : ∀ w', Chg (fun k => k = q) w w' → LogAt w' q p ⟨G, A, U⟩ vu → K (a.put o.dst undef) w') : if Region.wanted o (yielded ops a.tmps) = true then Oper.wp Tryd.prog o a w K Q else E := by
  have hw : Region.wanted o (yielded ops a.tmps) = true := by simp [Region.wanted, hgd]
  rw [if_pos hw]
  exact wp_store_mid 97 x y ho q 1 #[.int .i64 (G : Int), .int .i64 (A : Int), .int .i64 (U : Int)] hx hy hl.there (info_head' G A U) (by simp [Value.oneCell']) (h _ (setCells_chg (p := fun k => k = q) q rfl _ 1 w) (hl.setHead (h' := ⟨G, A, U⟩)))
theorem step_storeU {ops : Array Oper} {o : Oper} {a : Act} {w : World} {K : Act → World → Prop} {Q : Exit → Act → World → Prop} {E : Prop} (hgd : o.guard = none) (x y : Operand) (ho : o.op = .store 23 x y)
    (q p : Nat) (h0 : H) (vu : Value) (hx : a.eval x = .pointer (some ⟨q, 4, none⟩)) (av : Option Addr) (n c : Nat) (hy : a.eval y = .slice av n c) (hl : LogAt w q p h0 vu)
    (h : ∀ w', Chg (fun k => k = q) w w' → LogAt w' q p h0 (.slice av n c) → K (a.put o.dst undef) w') : if Region.wanted o (yielded ops a.tmps) = true then Oper.wp Tryd.prog o a w K Q else E := by
  have hw : Region.wanted o (yielded ops a.tmps) = true := by simp [Region.wanted, hgd]
  rw [if_pos hw]
  have h4 := hl.cells.2.2.2.2
  have hf := hl.free 4
  have hh := h _ ((Chg.refl (fun k => k = q) w).setCell (x := ⟨q, 4, none⟩) (fun _ => rfl) (.slice av n c)) (hl.setUsed (.slice av n c))
  unfold Oper.wp execOp
  simp only [ho, hx, hy, Instr.storeAt, Instr.sureAddr, Sem.run_bind, Sem.run_pure, Result.andThen_ok]
  go_simp
  exact hh
def pickV (e : Int) (a b : Value) : Value := if e = 0 then a else b
set_option maxRecDepth 20000 in
set_option maxHeartbeats 4000000 in
theorem lput_any {w : World} {F : Nat → Prop} {q p : Nat} {h h' : H} {vu vn : Value} {d : D} {u u' : List UInt8} {fr : Nat} (l : LogAt w q p h vu) (hD : Disk w F p d) (h4 : 4 ≤ d.n) (h512 : d.n ≤ 512) (hf : h'.Fine) (hn : Bytes w vn u') (hul : u'.length ≤ 32 * areaN d.n) (hfr : fr ≤ u'.length) (hw : Halves w) (hF : ∀ k, F k → k < w.heap.size) (hFq : ¬ F q) (hok : d.Ok) (hst : d.st.length ≤ 100000) (hhF : ¬ F 1 ∧ q ≠ 1) (hvF : ∀ k, vblk vn = some k → u' ≠ [] → ¬ F k ∧ k ≠ q) :
    Calls Tryd.prog 56 #[.pointer (some ⟨q, 0, none⟩), hagg h', vn, .int .i64 (fr : Int)] w fun e w' => e = .returned (.int .i64 (putL h' u' (fr / 32) ⟨d, h, u⟩).1) ∧ Chg (fun k => F k ∨ k = q) w w' ∧ Disk w' (grow F w) p (putL h' u' (fr / 32) ⟨d, h, u⟩).2.d ∧ LogAt w' q p (putL h' u' (fr / 32) ⟨d, h, u⟩).2.h (pickV (putL h' u' (fr / 32) ⟨d, h, u⟩).1 vn vu) := by
  have hFh := Lib.hid hF
  have hFqh := Lib.hid hFq
  have hokh := Lib.hid hok
  have hsth := Lib.hid hst
  have hhFh := Lib.hid hhF
  have hvFh := Lib.hid hvF
  clear hF hFq hok hst hhF hvF
  have hm : areaN d.n ≤ 256 := by unfold areaN; omega
  obtain ⟨av, cv, rfl, -⟩ := id hn
  have hg1 : (fr : Int) / 32 = ((fr / 32 : Nat) : Int) := by omega
  obtain ⟨i0, hi0⟩ : ∃ i, i = fr / 32 := ⟨_, rfl⟩
  have hq1 : Int.tdiv (fr : Int) 32 = (i0 : Int) := by rw [Int.tdiv_eq_ediv_of_nonneg (by omega), hi0]; exact hg1
  rw [← hi0] at hg1 ⊢
  have hq2 : IntKind.i64.wrap (i0 : Int) = (i0 : Int) := wrap_le (by omega) (by omega)
  have hi0h := Lib.hid hi0
  clear hi0
  obtain ⟨G, A, U⟩ := h'
  have hag : hagg ⟨G, A, U⟩ = .agg #[.int .i64 (G : Int), .int .i64 (A : Int), .int .i64 (U : Int)] := rfl
  rw [hag]
  have hlh := Lib.hid l
  have hDh := Lib.hid hD
  have hnh := Lib.hid hn
  have hwh := Lib.hid hw
  have hfh := Lib.hid hf
  clear l hD hn hw hf hag
  go_enter Tryd.func56, Tryd.ntmps56
  go_upto_block 0 with fail
  obtain ⟨w0, hw0⟩ : ∃ W, W = (w.alloc (.cells #[.pointer (some ⟨q, 0, none⟩)] 68)).alloc (.cells #[.int .i64 (G : Int), .int .i64 (A : Int), .int .i64 (U : Int)] 97) := ⟨_, rfl⟩
  have e0 : Ext w w0 := by rw [hw0]; exact ((Ext.refl w).alloc _).alloc _
  have hB4 := Lib.hid (show Boxed w0 w.heap.size 68 (.pointer (some ⟨q, 0, none⟩)) from by rw [hw0]; exact (Ext.refl _).alloc _ |>.heap (heap_alloc_new w _))
  have hB5 := Lib.hid (show w0.heap[w.heap.size + 1]? = some (.cells (harr ⟨G, A, U⟩) 97 (0, 0)) from by
    rw [hw0]
    have := heap_alloc_new (w.alloc (.cells #[.pointer (some ⟨q, 0, none⟩)] 68)) (.cells #[.int .i64 (G : Int), .int .i64 (A : Int), .int .i64 (U : Int)] 97)
    rw [World.size_alloc] at this
    exact this)
  rw [← hw0]
  have e0h := Lib.hid e0
  obtain ⟨B4, hb4⟩ : ∃ n, n = w.heap.size := ⟨_, rfl⟩
  rw [← hb4] at hB4 hB5 ⊢
  have hb4h := Lib.hid hb4
  clear hw0 e0 hb4
  go_cut [9] (fun cs wd => ∃ ks, Own (cenc B4 (B4 + 1) p) 59 wd w0.heap.size cs ks ∧ ks.length = nb u' - i0 ∧ Laid1 wd B4 (vblk (.slice av u'.length cv)) (2 + A * areaN d.n) i0 u' ks ∧ Ext w0 wd)
  case first =>
    go_wp2_with fail
    go_loopw [9, 10] (fun cs i wr => ∃ (I : Nat) (ks : List Cl), i = .int .i64 (I : Int) ∧ RowKit.Hid (I = i0 + ks.length) ∧ RowKit.Hid (I ≤ max i0 (nb u')) ∧ RowKit.Hid (Own (cenc B4 (B4 + 1) p) 59 wr w0.heap.size cs ks) ∧ RowKit.Hid (Laid1 wr B4 (vblk (.slice av u'.length cv)) (2 + A * areaN d.n) i0 u' ks) ∧ Ext w0 wr) (fun _ i _ => 20000 - (intOf i).toNat)
    case atStart => exact ⟨i0, [], rfl, Lib.hid rfl, Lib.hid (by omega), Lib.hid (Own.nil _ _ _), Lib.hid (fun t x hx => by simp at hx), Ext.refl _⟩
    case round =>
      obtain ⟨I, ks, rfl, hI, hIm, ho, hL, ek⟩ := hrel
      by_cases hlt : 32 * I < u'.length
      · have hIl : I ≤ 300 := by omega
        have g1 : IntKind.i64.wrap ((I : Int) * 32) = (I : Int) * 32 := wrap_le (by omega) (by omega)
        have g2 : IntKind.i64.wrap ((I : Int) + 1) = (I : Int) + 1 := wrap_le (by omega) (by omega)
        have g3 : IntKind.i64.wrap (((I : Int) + 1) * 32) = ((I : Int) + 1) * 32 := wrap_le (by omega) (by omega)
        have g4 : (I : Int) * 32 < (u'.length : Int) := by omega
        have g5 : (0 : Int) ≤ (I : Int) * 32 := by omega
        have hcv := hnh.out.cp.2.1
        go_upto_region 6 with fail
        obtain ⟨PV, hPV⟩ : ∃ v, v = Value.slice (Option.map (fun x => x.add (I * 32)) av) ((if ((I : Int) + 1) * 32 < (u'.length : Int) then ((I : Int) + 1) * 32 else (u'.length : Int)).toNat - I * 32) (cv - I * 32) := ⟨_, rfl⟩
        rw [← hPV]
        have hPb := Lib.hid (show Bytes w PV (Wl.part u' I) from by rw [hPV]; exact part_bytes hnh.out hlt)
        have hPk := Lib.hid (show ∀ k, vblk PV = some k → Wl.part u' I ≠ [] → vblk (.slice av u'.length cv) = some k from fun k hk _ => by rw [hPV] at hk; exact vblk_map av _ _ _ _ k _ hk)
        have hBp := Lib.hid (show Boxed (wr.alloc (.cells #[PV] 23)) wr.heap.size 23 PV from heap_alloc_new wr _)
        have e1 := ek.alloc (.cells #[PV] 23)
        have hle := Lib.hid (show B4 ≤ wr.heap.size from by rw [hb4h.out]; exact (e0h.out.trans ek).size)
        obtain ⟨Bp, hBpe⟩ : ∃ n, n = wr.heap.size := ⟨_, rfl⟩
        rw [← hBpe] at hBp hle ⊢
        have ew1 := Lib.hid ((Ext.refl wr).alloc (.cells #[PV] 23))
        generalize wr.alloc (.cells #[PV] 23) = w1 at *
        have e1h := Lib.hid e1
        have k4 := (Boxed.cell (e1.heap hB4.out))
        have k5 := cell_at (e1.heap hB5.out) 1 (u := .int .i64 (A : Int)) rfl
        have hbl := Lib.hid (lblock_any (hlh.out.ext (e0h.out.trans e1)) (hDh.out.ext (e0h.out.trans e1)) h4 h512 A I hfh.out.area (by omega))
        obtain ⟨bn, hbn⟩ : ∃ n, n = 2 + A * areaN d.n + I := ⟨_, rfl⟩
        rw [← hbn] at hbl
        have hbnh := Lib.hid hbn
        clear hPV hBpe e1 ek hbn
        go_upto_region 7 with (go_at_call 53; refine hbl.out.mono ?_; rintro e w1' ⟨rfl, rfl⟩)
        have hBa := Lib.hid (show Boxed (w1.alloc (.cells #[.int .i64 (bn : Int)] 3)) w1.heap.size 3 (.int .i64 (bn : Int)) from heap_alloc_new w1 _)
        have e2 := Lib.hid ((Ext.refl w1).alloc (.cells #[.int .i64 (bn : Int)] 3))
        have hle1 := Lib.hid (show B4 ≤ w1.heap.size from Nat.le_trans hle.out (Nat.le_of_lt (Boxed.lt hBp.out)))
        obtain ⟨Ba, hBae⟩ : ∃ n, n = w1.heap.size := ⟨_, rfl⟩
        rw [← hBae] at hBa hle1 ⊢
        generalize w1.alloc (.cells #[.int .i64 (bn : Int)] 3) = w2 at *
        have hwa := Lib.hid (show WrAt w2 B4 (vblk (.slice av u'.length cv)) (2 + A * areaN d.n + (i0 + ks.length)) (Wl.part u' (i0 + ks.length)) (.wr Ba Bp) from by
          rw [← hI.out, ← hbnh.out]
          exact ⟨hle1.out, hle.out, hBa.out, PV, e2.out.heap hBp.out, (hPb.out.ext (e0h.out.trans (e1h.out.trans e2.out))), hPk.out⟩)
        have hL2 := Lib.hid ((hL.out.ext (ew1.out.trans e2.out)).snoc hwa.out)
        have ho2 := Lib.hid (ho.out.ext (ew1.out.trans e2.out))
        have ek2 := Lib.hid (e1h.out.trans e2.out)
        have hkl := Lib.hid (show ks.length ≤ 1000 from by have := hI.out; omega)
        clear hBae k4 k5 hbl
        go_wp2_with (at_builtin; go_must (refine wpList_appendS (enc := cenc B4 (B4 + 1) p) (z := .nilFunc) (bytes := 8) Tryd.underlying122 info_fn rfl (cenc_one _ _ _) rfl (.tmp 40) (.tmp 42) rfl w0.heap.size _ ks rfl (ho2.out.alloc _) _ [Cl.wr Ba Bp] rfl (Sl.lit rfl rfl rfl (Nat.le_refl _) (by decide)) (by have := hkl.out; simp; omega) (by have := hkl.out; simp; omega) ((ek2.out.alloc _).size) ?_); intro v3 w3 o3 g3)
        have e3 := (ek2.out.alloc (.cells #[cenc B4 (B4 + 1) p (.wr Ba Bp)] 59)).grown g3 fun k hk => ho2.out.lt k hk
        have hL3 := (hL2.out.ext ((Ext.refl w2).alloc (.cells #[cenc B4 (B4 + 1) p (.wr Ba Bp)] 59))).grown (ho2.out.alloc _) g3 (fun k hk => by
          have h1 := hnh.out.blk_lt (fun e => by rw [e] at hlt; simp at hlt) k hk
          have h2 := e0h.out.size
          omega)
        go_roundw
        case rel => exact ⟨I + 1, ks ++ [Cl.wr Ba Bp], by go_num, Lib.hid (by rw [List.length_append, hI.out]; rfl), Lib.hid (nb_more hlt), Lib.hid o3, Lib.hid hL3, e3⟩
        case measure => simp [intOf]; omega
      · have hkl := Lib.hid (nb_done hlt hIm.out hI.out)
        have g4 := not32 hlt
        have g1 := wrap32 (I_small hIm.out hi0h.out hfr hul hm)
        clear hlt
        go_wp2
        go_meet
        exact ⟨ks, ho.out, hkl.out, hL.out, ek⟩
  case rest =>
    obtain ⟨ks, ho, hkl, hL, ek⟩ := hcut
    obtain ⟨w1, rfl⟩ : ∃ W, W = wc := ⟨_, rfl⟩
    obtain ⟨ac, cc, rfl, -⟩ := ho.shape
    have hoh := Lib.hid ho
    have hLh := Lib.hid hL
    have hklh := Lib.hid hkl
    have hks := Lib.hid (show ks.length ≤ 1000 from by rw [hkl]; unfold nb; omega)
    have hvb := Lib.hid (show ∀ k, vblk (.slice av u'.length cv) = some k → u' ≠ [] → k < w0.heap.size from fun k hk hne => Nat.lt_of_lt_of_le (hnh.out.blk_lt hne k hk) e0h.out.size)
    have ekh := Lib.hid ek
    have k4 := Boxed.cell (show Boxed w1 B4 68 (.pointer (some ⟨q, 0, none⟩)) from ek.heap hB4.out)
    have c0 := (hlh.out.ext (e0h.out.trans ek)).cells.1
    have hw1 := Lib.hid ek.size
    clear ho hL hkl
    go_upto_region 8 with fail
    go_cut [9] (fun cs wd => ∃ v2, v2 = cs ∧ Own (cenc B4 (B4 + 1) p) 59 wd w0.heap.size v2 (ks ++ [.sy, .hd, .sy]) ∧ Laid1 wd B4 (vblk (.slice av u'.length cv)) (2 + A * areaN d.n) i0 u' ks ∧ Ext w0 wd)
    case first =>
      have hS := Lib.hid (show ∀ W, Ext w0 W → (W.cell? ⟨B4, 0, none⟩ = some (.pointer (some ⟨q, 0, none⟩)) ∧ W.cell? ⟨q, 0, none⟩ = some (.pointer (some ⟨p, 0, none⟩))) from fun W e => ⟨Boxed.cell (show Boxed W B4 68 _ from e.heap hB4.out), (hlh.out.ext (e0h.out.trans e)).cells.1⟩)
      clear k4 c0
      go_region_held3 (fun W => W.cell? ⟨B4, 0, none⟩ = some (.pointer (some ⟨q, 0, none⟩)) ∧ W.cell? ⟨q, 0, none⟩ = some (.pointer (some ⟨p, 0, none⟩)))
        ((refine hS.out _ ?_; first | exact e3 | exact ekh.out.drew | exact ekh.out.drew.alloc _ | exact (ekh.out.alloc _).drew))
        ((refine step_appendK (B4 := B4) (B5 := B4 + 1) (p := p) rfl (.tmp 44) (.tmp 56) rfl w0.heap.size (.slice ac ks.length cc) ks rfl (hoh.out.ext (((Ext.refl w1).drew).alloc _)) _ [Cl.sy, Cl.hd, Cl.sy] rfl (by exact Sl.lit (w := w1.drew) (enc := cenc B4 (B4 + 1) p) (l := [Cl.sy, Cl.hd, Cl.sy]) (n := 3) (cap := 3) rfl rfl rfl (Nat.le_refl _) (show 3 ≤ maxLen by decide)) (by have := hks.out; simp; omega) (Nat.le_trans hw1.out ((((Ext.refl w1).drew).alloc _).size)) ?_; intro v3 w3 o3 g3; have e3 : Ext w0 w3 := (ekh.out.drew.alloc _).grown g3 fun k hk => hoh.out.lt k hk))
      all_goals
        have hL3 : Laid1 w3 B4 (vblk (.slice av u'.length cv)) (2 + A * areaN d.n) i0 u' ks := by
          by_cases hu : u' = []
          · have : ks = [] := List.eq_nil_of_length_eq_zero (by rw [hklh.out, hu]; exact Nat.zero_sub _)
            rw [this]
            exact fun t x hx => by simp at hx
          · exact (hLh.out.ext (((Ext.refl w1).drew).alloc _)).grown (hoh.out.ext (((Ext.refl w1).drew).alloc _)) g3 (fun k hk => hvb.out k hk hu)
        go_wp2
        go_meet
        exact ⟨_, rfl, o3, hL3, e3⟩
    case rest =>
      obtain ⟨v2, rfl, ho, hL, ek2⟩ := hcut
      obtain ⟨w2, rfl⟩ : ∃ W, W = wc := ⟨_, rfl⟩
      obtain ⟨a2, c2, rfl, hsl, hbs0⟩ := ho.shape
      have hbs : RowKit.Hid (∀ g2 o2, a2 = some ⟨g2, o2, none⟩ → w0.heap.size ≤ g2) := Lib.hid fun g2 o2 e => hbs0 g2 (by rw [e]; rfl)
      clear hbs0
      have hsh := Lib.hid hsl
      have hL2 := Lib.hid hL
      have e2h := Lib.hid ek2
      have hlen := Lib.hid (show (ks ++ [Cl.sy, Cl.hd, Cl.sy]).length = ks.length + 3 from by simp)
      clear ho hL ek2 hLh hoh ekh hw1 k4 c0 hvb
      go_upto_block 2 with fail
      have hrel0 := Lib.hid (show Disk w2 (grow F w2) p d from (hDh.out.ext (e0h.out.trans e2h.out)).mono fun k hk => .inl hk)
      obtain ⟨cs, hcs⟩ : ∃ cs, cs = calls (areaN d.n) ⟨G, A, U⟩ u' i0 := ⟨_, rfl⟩
      have hcsh := Lib.hid hcs
      have hcl := Lib.hid (show cs.length = ks.length + 3 from by rw [hcs, calls_length, hklh.out])
      clear hcs
      rw [hlen.out]
      go_wp2_with fail
      go_loopw [60] (fun i wr => ∃ (j : Nat) (dj : D), j ≤ ks.length + 3 ∧ i = .int .i64 (j : Int) ∧ RowKit.Hid (run (cs.take j) d = (true, dj)) ∧ RowKit.Hid (Disk wr (grow F w2) p dj) ∧ RowKit.Hid (Chg (grow F w2) w2 wr) ∧ RowKit.Hid (dj.st.length ≤ d.st.length + j)) (fun i _ => ks.length + 3 - (intOf i).toNat)
      case atStart => exact ⟨0, d, Nat.zero_le _, rfl, Lib.hid rfl, hrel0, Lib.hid (Chg.refl _ _), Lib.hid (Nat.le_refl _)⟩
      case round =>
        obtain ⟨j, dj, hj, rfl, hrun, hDj, hcj, hstj⟩ := hrel
        have hjh := Lib.hid hj
        by_cases hlt : j < ks.length + 3
        · obtain ⟨x, hx⟩ : ∃ x, (ks ++ [Cl.sy, Cl.hd, Cl.sy])[j]? = some x := ⟨_, List.getElem?_eq_getElem (by simp; omega)⟩
          obtain ⟨g2, o2, rfl, hcell⟩ := hsh.out.cells j x hx
          have hng : RowKit.Hid (∀ k, w.heap.size ≤ k → k < w2.heap.size → ¬ grow F w2 k) := Lib.hid fun k h1 h2 h => h.elim (fun hk => by have := hFh.out k hk; omega) (fun hk => by omega)
          have hg2 := World.block_lt_of_cell? w2 _ hcell
          have hg1 : w.heap.size ≤ g2 := Nat.le_trans e0h.out.size (hbs.out g2 o2 rfl)
          have hc := hcj.out.cell hcell (hng.out g2 hg1 hg2)
          have hnq : RowKit.Hid (¬ grow F w2 q) := Lib.hid fun h => h.elim hFqh.out (fun hk => by have := hlh.out.lt; have := e0h.out.size; have := e2h.out.size; omega)
          have hlr := (hlh.out.ext (e0h.out.trans e2h.out)).chg hcj.out hnq.out
          have hB42 : Boxed w2 B4 68 (.pointer (some ⟨q, 0, none⟩)) := e2h.out.heap hB4.out
          have hn4 : RowKit.Hid (¬ grow F w2 B4) := Lib.hid (hng.out _ (by rw [hb4h.out]; exact Nat.le_refl _) hB42.lt)
          have hB4r := Boxed.chg hB42 hcj.out hn4.out
          have hwlt : w.heap.size ≤ w2.heap.size := Nat.le_trans e0h.out.size e2h.out.size
          have hgg : RowKit.Hid (∀ W k, w2.heap.size ≤ W → (grow F w2 k ∨ W ≤ k) → grow F w2 k) := Lib.hid fun W k h1 h => h.elim id fun h => .inr (Nat.le_trans h1 h)
          have hstd : dj.st.length ≤ 1048576 := by have := hstj.out; have := hsth.out; have := hks.out; omega
          have hjlt : (j : Int) < ((ks.length + 3 : Nat) : Int) := by omega
          clear hcell
          have hcase : (j < ks.length ∧ ∃ Ba Bp, x = .wr Ba Bp ∧ WrAt w2 B4 (vblk (.slice av u'.length cv)) (2 + A * areaN d.n + (i0 + j)) (Wl.part u' (i0 + j)) (.wr Ba Bp) ∧ cs[j]? = some (.wr (2 + A * areaN d.n + (i0 + j)) (Wl.part u' (i0 + j)))) ∨ (x = .sy ∧ cs[j]? = some .sy) ∨ (x = .hd ∧ cs[j]? = some (.wr (G % 2) (hb ⟨G, A, U⟩))) := by
            by_cases h1 : j < ks.length
            · rw [List.getElem?_append_left h1] at hx
              have hw := hL2.out j x hx
              have hcj := calls_wr (m := areaN d.n) (h := ⟨G, A, U⟩) (u := u') (i0 := i0) (j := j) (by rw [← hklh.out]; exact h1)
              rw [← hcsh.out] at hcj
              cases x with
              | wr Ba Bp => exact .inl ⟨h1, Ba, Bp, rfl, hw, hcj⟩
              | sy => exact hw.elim
              | hd => exact hw.elim
            · rw [List.getElem?_append_right (by omega)] at hx
              have hce := fun t => calls_end (m := areaN d.n) (h := ⟨G, A, U⟩) (u := u') (i0 := i0) (j := t) hklh.out
              rw [← hcsh.out] at hce
              have ht : j - ks.length = 0 ∨ j - ks.length = 1 ∨ j - ks.length = 2 := by omega
              rcases ht with ht | ht | ht
              · rw [ht] at hx
                have := hce 0
                rw [show ks.length + 0 = j by omega] at this
                exact .inr (.inl ⟨(Option.some.inj hx).symm, this⟩)
              · rw [ht] at hx
                have := hce 1
                rw [show ks.length + 1 = j by omega] at this
                exact .inr (.inr ⟨(Option.some.inj hx).symm, this⟩)
              · rw [ht] at hx
                have := hce 2
                rw [show ks.length + 2 = j by omega] at this
                exact .inr (.inl ⟨(Option.some.inj hx).symm, this⟩)
          have hnx := Lib.hid fun c (h1 : cs[j]? = some c) (h0 : cE c dj = 0) => run_next h1 hrun.out h0
          have hbd := Lib.hid fun c (h1 : cs[j]? = some c) (h0 : cE c dj ≠ 0) => run_bad h1 hrun.out h0
          have hln := Lib.hid fun c => cD_len c dj
          clear hx hrun
          have hwlth := Lib.hid hwlt
          have hfin := Lib.hid (show ∀ W, Chg (grow F w2) w2 W → Chg (fun k => F k ∨ k = q) w W from fun W c => ⟨c.os.trans (e0h.out.trans e2h.out).os, c.tape.trans (e0h.out.trans e2h.out).tape, c.output.trans (e0h.out.trans e2h.out).output, Nat.le_trans hwlt c.size, fun k hk hp => (c.block k (Nat.lt_of_lt_of_le hk hwlt) (fun h => h.elim (fun h => hp (.inl h)) (fun h => by omega))).trans ((e0h.out.trans e2h.out).block k hk)⟩)
          have hlq := Lib.hid (show ∀ W, Chg (grow F w2) w2 W → LogAt W q p h vu from fun W c => (hlh.out.ext (e0h.out.trans e2h.out)).chg c hnq.out)
          have gw1 : IntKind.i64.wrap ((j : Int) + 1) = (j : Int) + 1 := wrap_le (by omega) (by have := hks.out; omega)
          obtain ⟨w1', rfl⟩ : ∃ W, W = wr := ⟨_, rfl⟩
          rcases hcase with ⟨hj1, Ba, Bp, rfl, ⟨hBa1, hBp1, hBa, PV, hBp, hPV, hPb⟩, hcj1⟩ | ⟨rfl, hcj1⟩ | ⟨rfl, hcj1⟩
          · have hc2 : w1'.cell? ⟨g2, o2 + j, none⟩ = some (.func (.func 70) #[] #[.pointer (some ⟨B4, 0, none⟩), .pointer (some ⟨Ba, 0, none⟩), .pointer (some ⟨Bp, 0, none⟩)]) := hc
            clear hc
            have hnb : ∀ k, w.heap.size ≤ k → (∃ t v, Boxed w2 k t v) → ¬ grow F w2 k := fun k h1 ⟨t, v, h2⟩ => hng.out k h1 h2.lt
            have hbw : w.heap.size ≤ B4 := by rw [hb4h.out]; exact Nat.le_refl _
            have hP := put1_any (F := grow F w2) hB4r (Boxed.chg hBa hcj.out (hnb _ (Nat.le_trans hbw hBa1) ⟨_, _, hBa⟩)) (Boxed.chg hBp hcj.out (hnb _ (Nat.le_trans hbw hBp1) ⟨_, _, hBp⟩)) hlr hDj.out hstd (fun w' c => hPV.chgV (hcj.out.trans c) (fun k hk hl hg => hg.elim (fun hF => (hvFh.out k (hPb k hk hl) (fun e => hl (by rw [e]; unfold Wl.part; simp))).1 hF) (fun h2 => by have := hPV.blk_lt hl k hk; omega)))
            clear hnb hBa hBp hPV hPb
            obtain ⟨d2, hd2⟩ : ∃ d2, d2 = cD (.wr (2 + A * areaN d.n + (i0 + j)) (Wl.part u' (i0 + j))) dj := ⟨_, rfl⟩
            obtain ⟨E, hE⟩ : ∃ E, E = cE (.wr (2 + A * areaN d.n + (i0 + j)) (Wl.part u' (i0 + j))) dj := ⟨_, rfl⟩
            have hP3 : RowKit.Hid (Calls Tryd.prog 70 #[.pointer (some ⟨B4, 0, none⟩), .pointer (some ⟨Ba, 0, none⟩), .pointer (some ⟨Bp, 0, none⟩)] w1' fun e w' => e = .returned (.int .i64 E) ∧ Chg (grow F w2) w1' w' ∧ Disk w' (grow F w2) p d2) := Lib.hid (hP.mono fun e w' ⟨h1, h2⟩ => ⟨by rw [h1, hE]; rfl, by rw [hd2]; exact ⟨h2.1, h2.2.mono fun k hk => hgg.out _ k hcj.out.size hk⟩⟩)
            have hl2 := Lib.hid (show d2.st.length ≤ d.st.length + (j + 1) from by have h1 := hln.out (.wr (2 + A * areaN d.n + (i0 + j)) (Wl.part u' (i0 + j))); rw [← hd2] at h1; have h2 := hstj.out; omega)
            clear hP hln hstj
            by_cases h0 : E = 0
            · have hr2 := Lib.hid (hnx.out _ hcj1 (hE.symm.trans h0))
              rw [← hd2] at hr2
              subst h0
              clear hE hd2 hnx hbd hcj1 hlr hB4r hB42
              go_wp2_with (go_at_call 70; refine hP3.out.mono ?_; rintro e w3 ⟨rfl, c3, D3⟩)
              go_roundw
              case rel => exact ⟨j + 1, d2, by omega, by go_num, hr2, Lib.hid D3, Lib.hid (hcj.out.trans c3), hl2⟩
              case measure => simp [intOf]; omega
            · have hr2 := Lib.hid (hbd.out _ hcj1 (fun h => h0 (hE.trans h)))
              rw [← hd2, hcsh.out] at hr2
              have hpb := Lib.hid (putL_bad (h := h) (u := u) hr2.out)
              have d1 : (E != 0) = true := by rw [bne_iff_ne]; exact h0
              clear hE hd2 hnx hbd hcj1 h0 hr2
              have hlrh := Lib.hid hlr
              have hB4h := Lib.hid hB4r
              clear hlr hB4r hB42
              go_wp2_with (first
                | (go_at_call 70; refine hP3.out.mono ?_; rintro e w3 ⟨rfl, c3, D3⟩; have k4 := (Boxed.chg hB4h.out c3 hn4.out).cell; have k0 := (hlrh.out.chg c3 hnq.out).cells.1)
                | (go_at_call 46; refine (drop_any D3).mono ?_; rintro e w4 ⟨rfl, c4, D4⟩))
              go_ret
              rw [hpb.out]
              have hc2 := (hcj.out.trans c3).trans (c4.mono fun k hk => by rw [hk]; exact D3.hd)
              refine ⟨rfl, ?_, ?_, ?_⟩
              · exact hfin.out _ hc2
              · exact D4.mono fun k hk => hk.imp id fun h => Nat.le_trans hwlth.out h
              · exact hlq.out _ hc2
          · have hc2 : w1'.cell? ⟨g2, o2 + j, none⟩ = some (.func (.func 72) #[.pointer (some ⟨p, 0, none⟩)] #[]) := hc
            clear hc
            have hP := sync_any hDj.out
            obtain ⟨d2, hd2⟩ : ∃ d2, d2 = cD C.sy dj := ⟨_, rfl⟩
            obtain ⟨E, hE⟩ : ∃ E, E = cE C.sy dj := ⟨_, rfl⟩
            have hP3 : RowKit.Hid (Calls Tryd.prog 72 #[.pointer (some ⟨p, 0, none⟩)] w1' fun e w' => e = .returned (.int .i64 E) ∧ Chg (grow F w2) w1' w' ∧ Disk w' (grow F w2) p d2) := Lib.hid (hP.mono fun e w' ⟨h1, h2⟩ => ⟨by rw [h1, hE]; rfl, by rw [hd2]; exact ⟨h2.1, h2.2⟩⟩)
            have hl2 := Lib.hid (show d2.st.length ≤ d.st.length + (j + 1) from by have h1 := hln.out C.sy; rw [← hd2] at h1; have h2 := hstj.out; omega)
            clear hP hln hstj
            by_cases h0 : E = 0
            · have hr2 := Lib.hid (hnx.out _ hcj1 (hE.symm.trans h0))
              rw [← hd2] at hr2
              subst h0
              clear hE hd2 hnx hbd hcj1 hlr hB4r hB42
              go_wp2_with (go_at_call 72; refine hP3.out.mono ?_; rintro e w3 ⟨rfl, c3, D3⟩)
              go_roundw
              case rel => exact ⟨j + 1, d2, by omega, by go_num, hr2, Lib.hid D3, Lib.hid (hcj.out.trans c3), hl2⟩
              case measure => simp [intOf]; omega
            · have hr2 := Lib.hid (hbd.out _ hcj1 (fun h => h0 (hE.trans h)))
              rw [← hd2, hcsh.out] at hr2
              have hpb := Lib.hid (putL_bad (h := h) (u := u) hr2.out)
              have d1 : (E != 0) = true := by rw [bne_iff_ne]; exact h0
              clear hE hd2 hnx hbd hcj1 h0 hr2
              have hlrh := Lib.hid hlr
              have hB4h := Lib.hid hB4r
              clear hlr hB4r hB42
              go_wp2_with (first
                | (go_at_call 72; refine hP3.out.mono ?_; rintro e w3 ⟨rfl, c3, D3⟩; have k4 := (Boxed.chg hB4h.out c3 hn4.out).cell; have k0 := (hlrh.out.chg c3 hnq.out).cells.1)
                | (go_at_call 46; refine (drop_any D3).mono ?_; rintro e w4 ⟨rfl, c4, D4⟩))
              go_ret
              rw [hpb.out]
              have hc2 := (hcj.out.trans c3).trans (c4.mono fun k hk => by rw [hk]; exact D3.hd)
              refine ⟨rfl, ?_, ?_, ?_⟩
              · exact hfin.out _ hc2
              · exact D4.mono fun k hk => hk.imp id fun h => Nat.le_trans hwlth.out h
              · exact hlq.out _ hc2
          · have hc2 : w1'.cell? ⟨g2, o2 + j, none⟩ = some (.func (.func 73) #[] #[.pointer (some ⟨B4, 0, none⟩), .pointer (some ⟨B4 + 1, 0, none⟩)]) := hc
            clear hc
            have hB5r : w1'.heap[B4 + 1]? = some (.cells (harr ⟨G, A, U⟩) 97 (0, 0)) := (hcj.out.block _ (Array.getElem?_eq_some_iff.1 (e2h.out.heap hB5.out)).1 (hng.out _ (by rw [hb4h.out]; omega) (Array.getElem?_eq_some_iff.1 (e2h.out.heap hB5.out)).1)).trans (e2h.out.heap hB5.out)
            have hn5 : ¬ grow F w2 (B4 + 1) := hng.out _ (by rw [hb4h.out]; omega) (Array.getElem?_eq_some_iff.1 (e2h.out.heap hB5.out)).1
            have hwr : Halves w1' := (hwh.out.ext (e0h.out.trans e2h.out)).chg hcj.out (fun h => h.elim hhFh.out.1 (fun h => by have : 1 < w.heap.size := World.block_lt_of_cell? w _ (hwh.out 0); have := e0h.out.size; have := e2h.out.size; omega))
            have hP := put2_any (F := fun k => grow F w2 k ∧ k < w1'.heap.size) hB4r hB5r hfh.out hlr hDj.out.bound (fun k hk => hk.2) hstd hwr (fun hk => hn4.out hk.1) (fun hk => hnq.out hk.1) (fun hk => hn5 hk.1)
            clear hB5r hn5 hwr
            obtain ⟨d2, hd2⟩ : ∃ d2, d2 = cD (.wr (G % 2) (hb ⟨G, A, U⟩)) dj := ⟨_, rfl⟩
            obtain ⟨E, hE⟩ : ∃ E, E = cE (.wr (G % 2) (hb ⟨G, A, U⟩)) dj := ⟨_, rfl⟩
            have hP3 : RowKit.Hid (Calls Tryd.prog 73 #[.pointer (some ⟨B4, 0, none⟩), .pointer (some ⟨B4 + 1, 0, none⟩)] w1' fun e w' => e = .returned (.int .i64 E) ∧ Chg (grow F w2) w1' w' ∧ Disk w' (grow F w2) p d2) := Lib.hid (hP.mono fun e w' ⟨h1, h2⟩ => ⟨by rw [h1, hE]; rfl, by rw [hd2]; exact ⟨h2.1.mono (fun k hk => hk.1), h2.2.mono fun k hk => hgg.out _ k hcj.out.size (hk.imp (fun h => h.1) id)⟩⟩)
            have hl2 := Lib.hid (show d2.st.length ≤ d.st.length + (j + 1) from by have h1 := hln.out (.wr (G % 2) (hb ⟨G, A, U⟩)); rw [← hd2] at h1; have h2 := hstj.out; omega)
            clear hP hln hstj
            by_cases h0 : E = 0
            · have hr2 := Lib.hid (hnx.out _ hcj1 (hE.symm.trans h0))
              rw [← hd2] at hr2
              subst h0
              clear hE hd2 hnx hbd hcj1 hlr hB4r hB42
              go_wp2_with (go_at_call 73; refine hP3.out.mono ?_; rintro e w3 ⟨rfl, c3, D3⟩)
              go_roundw
              case rel => exact ⟨j + 1, d2, by omega, by go_num, hr2, Lib.hid D3, Lib.hid (hcj.out.trans c3), hl2⟩
              case measure => simp [intOf]; omega
            · have hr2 := Lib.hid (hbd.out _ hcj1 (fun h => h0 (hE.trans h)))
              rw [← hd2, hcsh.out] at hr2
              have hpb := Lib.hid (putL_bad (h := h) (u := u) hr2.out)
              have d1 : (E != 0) = true := by rw [bne_iff_ne]; exact h0
              clear hE hd2 hnx hbd hcj1 h0 hr2
              have hlrh := Lib.hid hlr
              have hB4h := Lib.hid hB4r
              clear hlr hB4r hB42
              go_wp2_with (first
                | (go_at_call 73; refine hP3.out.mono ?_; rintro e w3 ⟨rfl, c3, D3⟩; have k4 := (Boxed.chg hB4h.out c3 hn4.out).cell; have k0 := (hlrh.out.chg c3 hnq.out).cells.1)
                | (go_at_call 46; refine (drop_any D3).mono ?_; rintro e w4 ⟨rfl, c4, D4⟩))
              go_ret
              rw [hpb.out]
              have hc2 := (hcj.out.trans c3).trans (c4.mono fun k hk => by rw [hk]; exact D3.hd)
              refine ⟨rfl, ?_, ?_, ?_⟩
              · exact hfin.out _ hc2
              · exact D4.mono fun k hk => hk.imp id fun h => Nat.le_trans hwlth.out h
              · exact hlq.out _ hc2
        · obtain rfl : j = ks.length + 3 := by omega
          have hrn : run cs d = (true, dj) := by have := hrun.out; rwa [List.take_of_length_le (by have := hcl.out; omega)] at this
          rw [hcsh.out] at hrn
          have hpo := Lib.hid (putL_ok (h := h) (u := u) hrn)
          have hwlt : w.heap.size ≤ w2.heap.size := Nat.le_trans e0h.out.size e2h.out.size
          have hng : RowKit.Hid (∀ k, w.heap.size ≤ k → k < w2.heap.size → ¬ grow F w2 k) := Lib.hid fun k h1 h2 h => h.elim (fun hk => by have := hFh.out k hk; omega) (fun hk => by omega)
          have hnq : RowKit.Hid (¬ grow F w2 q) := Lib.hid fun h => h.elim hFqh.out (fun hk => by have := hlh.out.lt; omega)
          have hB42 : Boxed w2 B4 68 (.pointer (some ⟨q, 0, none⟩)) := e2h.out.heap hB4.out
          have hn4 : RowKit.Hid (¬ grow F w2 B4) := Lib.hid (hng.out _ (by rw [hb4h.out]; exact Nat.le_refl _) hB42.lt)
          have hn5 : RowKit.Hid (¬ grow F w2 (B4 + 1)) := Lib.hid (hng.out _ (by rw [hb4h.out]; omega) (Array.getElem?_eq_some_iff.1 (e2h.out.heap hB5.out)).1)
          have hB4r := Boxed.chg hB42 hcj.out hn4.out
          have hB5r : wr.heap[B4 + 1]? = some (.cells (harr ⟨G, A, U⟩) 97 (0, 0)) := (hcj.out.block _ (Array.getElem?_eq_some_iff.1 (e2h.out.heap hB5.out)).1 hn5.out).trans (e2h.out.heap hB5.out)
          have hlr := Lib.hid ((hlh.out.ext (e0h.out.trans e2h.out)).chg hcj.out hnq.out)
          have k4 := hB4r.cell
          have hB5h := Lib.hid hB5r
          have hn4q : RowKit.Hid (B4 ≠ q) := Lib.hid (by have := hlh.out.lt; have := hb4h.out; omega)
          have hn5q : RowKit.Hid (B4 + 1 ≠ q) := Lib.hid (by have := hlh.out.lt; have := hb4h.out; omega)
          have hnlt : ¬ ((ks.length + 3 : Nat) : Int) < ((ks.length + 3 : Nat) : Int) := by omega
          clear hB4r hB5r hB42 hrun hrn hstj hj
          go_upto_region 17 with fail
          obtain ⟨-, f1, f2, f3, f4⟩ := hlr.out.cells
          have r1 := hlr.out.free 1
          have r2 := hlr.out.free 2
          have r3 := hlr.out.free 3
          have r4 := hlr.out.free 4
          have g0 := cell_at hB5h.out 0 (u := .int .i64 (G : Int)) rfl
          have g1 := cell_at hB5h.out 1 (u := .int .i64 (A : Int)) rfl
          have g2 := cell_at hB5h.out 2 (u := .int .i64 (U : Int)) rfl
          have n1 := hn4q.out
          have n2 := hn5q.out
          have n3 := hn4q.out.symm
          have n4 := hn5q.out.symm
          go_region
          all_goals go_wp2
          all_goals go_ret
          all_goals
            rw [hpo.out]
            have l9 : LogAt ((((wr.setCell ⟨q, 1, none⟩ (.int .i64 (G : Int))).setCell ⟨q, 2, none⟩ (.int .i64 (A : Int))).setCell ⟨q, 3, none⟩ (.int .i64 (U : Int))).setCell ⟨q, 4, none⟩ (.slice av u'.length cv)).drew q p ⟨G, A, U⟩ (.slice av u'.length cv) := ((hlr.out.setHead (h' := ⟨G, A, U⟩)).setUsed (.slice av u'.length cv)).ext (Ext.refl _).drew
            have c9 := (((((Chg.refl (fun k => k = q) wr).setCell (x := ⟨q, 1, none⟩) (fun _ => rfl) (.int .i64 (G : Int))).setCell (x := ⟨q, 2, none⟩) (fun _ => rfl) (.int .i64 (A : Int))).setCell (x := ⟨q, 3, none⟩) (fun _ => rfl) (.int .i64 (U : Int))).setCell (x := ⟨q, 4, none⟩) (fun _ => rfl) (.slice av u'.length cv)).drew
            have c2w : Chg (fun k => F k ∨ k = q) w wr := ⟨hcj.out.os.trans (e0h.out.trans e2h.out).os, hcj.out.tape.trans (e0h.out.trans e2h.out).tape, hcj.out.output.trans (e0h.out.trans e2h.out).output, Nat.le_trans hwlt hcj.out.size, fun k hk hp => (hcj.out.block k (Nat.lt_of_lt_of_le hk hwlt) (fun h => h.elim (fun h => hp (.inl h)) (fun h => by omega))).trans ((e0h.out.trans e2h.out).block k hk)⟩
            refine ⟨rfl, c2w.trans (c9.mono fun k hk => .inr hk), ?_, l9⟩
            exact (hDj.out.chg c9 (fun k hk e => hnq.out (e ▸ hk))).mono fun k hk => hk.imp id fun h => Nat.le_trans hwlt h
end Go.Proofs.YtkdmljijgfejpaaDoor
