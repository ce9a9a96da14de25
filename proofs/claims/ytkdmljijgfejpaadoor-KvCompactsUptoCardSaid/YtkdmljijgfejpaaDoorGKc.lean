/- A log in memory: what it tells; it is opened. (as XWlM) -/
import Derived.Test.YtkdmljijgfejpaaDoorWlK
import Derived.Test.YtkdmljijgfejpaaDoorFrI
namespace Go.Proofs.YtkdmljijgfejpaaDoor
set_option linter.unusedVariables false
set_option linter.unusedSimpArgs false
open Go.RowKit Dk Wl Fr
theorem grow_ext {F : Nat → Prop} {w w1 : World} (e : Ext w w1) : ∀ k, grow F w1 k → grow F w k := fun _ hk => hk.imp id fun h => Nat.le_trans e.size h

theorem lroom_m {w : World} {F : Nat → Prop} {q p : Nat} {g : Lg} (l : LogM w F q p g) (s : Sane g) :
    Calls Tryd.prog 47 #[.pointer (some ⟨q, 0, none⟩)] w fun e w' => e = .returned (.int .i64 ((32 * areaN g.d.n - g.h.used : Nat) : Int)) ∧ Ext w w' := by
  obtain ⟨G, vu, h1, h2, h3, h4, h5, h6, h7, h8⟩ := l
  exact lRoom_any h6 h1 s.n4 s.n512 s.room
theorem sane_len {g : Lg} (s : Sane g) : g.u.length ≤ 9000 := by
  have h1 := s.n512
  have h2 := s.room
  have h3 := s.used
  unfold areaN at h2
  omega
theorem lrecords_m {w : World} {F : Nat → Prop} {q p : Nat} {g : Lg} (l : LogM w F q p g) (s : Sane g) (hw : Halves w) :
    Calls Tryd.prog 38 #[.pointer (some ⟨q, 0, none⟩)] w (Ret fun v w' => OwnLL w' w.heap.size (fun k => w.heap.size ≤ k) v (scan g.u) ∧ Ext w w') := by
  obtain ⟨G, vu, h1, h2, h3, h4, h5, h6, h7, h8⟩ := l
  exact lrecords_any h6 h7 (by have := sane_len s; omega) hw
theorem areaB_len {d : D} (hok : d.Ok) (h4 : 4 ≤ d.n) {a : Nat} (ha : a < 2) : (areaB d a).length = 32 * areaN d.n := by
  unfold areaB
  have hm := areaN_le d.n h4
  exact flat_length _ _ (fun i hi => rdB_len hok (by rcases area_case ha (areaN d.n) with ⟨_, e⟩ | ⟨_, e⟩ <;> omega))
theorem open_sane {d : D} (hok : d.Ok) (h : openE d = 0) : Sane ⟨d, openH d, openU d⟩ := by
  have h4 : 4 ≤ d.n := by
    rcases Nat.lt_or_ge d.n 4 with hh | hh
    · unfold openE at h; rw [if_pos hh] at h; cases h
    · exact hh
  obtain ⟨f1, f2⟩ := pickH_fine (32 * areaN d.n) (rdB 0 d) (rdB 1 d)
  refine ⟨h4, hok.most, f1, ?_, f2⟩
  show (openU d).length = (openH d).used
  have f2' : (openH d).used ≤ 32 * areaN d.n := f2
  unfold openU
  rw [List.length_take, areaB_len hok h4 (show (openH d).area < 2 from f1.area)]
  omega
theorem lopen_m {w : World} {F G : Nat → Prop} {p : Nat} {d : D} (hD : Disk w G p d) (hGF : ∀ k, G k → F k) (hw : Halves w) :
    Calls Tryd.prog 37 #[.pointer (some ⟨p, 0, none⟩)] w (Ret fun r w' => Ext w w' ∧ ((openE d ≠ 0 ∧ r = .tuple #[.pointer none, .int .i64 (openE d)]) ∨
      (openE d = 0 ∧ ∃ q, r = .tuple #[.pointer (some ⟨q, 0, none⟩), .int .i64 0] ∧ w.heap.size ≤ q ∧ LogM w' (grow F w) q p ⟨d, openH d, openU d⟩))) := by
  have hok : d.Ok := by
    obtain ⟨gk, s, v, z, _, _, _, _, _, _, ok⟩ := hD
    exact ok
  refine (lopen_any hD.bound hok hw (fun k hk => hk.2)).mono fun e w' ⟨r, h1, h2, h3⟩ => ⟨r, h1, h2, ?_⟩
  rcases h3 with h | ⟨h3, q, h4, h5, vu, h6, h7, h8⟩
  · exact .inl h
  · refine .inr ⟨h3, q, h4, h5, _, vu, hD.bound.ext h2, fun k hk => .inl (hGF k hk.1), fun k hk => Nat.lt_of_lt_of_le hk.2 h2.size, .inr h5, fun hk => by have := hk.2; omega, h6, h7, fun k hk hl => ⟨.inr (h8 k hk hl).1, fun hg => by have := hg.2; have := (h8 k hk hl).1; omega, (h8 k hk hl).2⟩⟩
theorem new_open {n : Nat} (h4 : 4 ≤ n) (h512 : n ≤ 512) : openE (mk n) = 0 ∧ openH (mk n) = H.zero ∧ openU (mk n) = [] := by
  obtain ⟨h1, h2, h3, -⟩ := (new_log h4 h512 0).found
  exact ⟨h3, h1, h2⟩
end Go.Proofs.YtkdmljijgfejpaaDoor


namespace Go.Proofs.YtkdmljijgfejpaaDoor
set_option linter.unusedVariables false
set_option linter.unusedSimpArgs false
open Go.RowKit Dk Wl Fr

def from_ (w : World) : Nat → Prop := fun k => w.heap.size ≤ k
theorem from_grow {w w1 : World} (e : Ext w w1) : ∀ k, grow (from_ w) w1 k → from_ w k := fun _ hk => hk.elim id fun h => Nat.le_trans e.size h
theorem not_from {w : World} (hw : Halves w) : ¬ from_ w 1 := fun h => by
  have : 1 < w.heap.size := World.block_lt_of_cell? w _ (hw 0)
  have h2 : w.heap.size ≤ 1 := h
  omega
theorem Ext.fromC {w w1 w2 : World} (e : Ext w w1) (c : Chg (from_ w) w1 w2) : Ext w w2 := e.chg c fun _ h => h
theorem from_after {w wr W : World} (e : Ext w wr) (c : Chg (from_ w) wr W) : Ext w W := e.chg c fun _ h => h

section
variable {w : World} {F : Nat → Prop} {q p : Nat} {g : Lg}
theorem lstop_m (l : LogM w F q p g) (n : Int) (hn1 : -9223372036854775808 ≤ n) (hn2 : n ≤ 9223372036854775807) :
    Calls Tryd.prog 26 #[.pointer (some ⟨p, 0, none⟩), .int .i64 n] w fun e w' => e = .returned (.tuple #[]) ∧ Chg F w w' ∧ LogM w' (grow F w) q p ⟨stop n g.d, g.h, g.u⟩ := by
  obtain ⟨G, hD, hGF, hGs, hk⟩ := l.disk
  refine (stop_any hD n hn1 hn2).mono fun e w' ⟨h1, h2, h3⟩ => ?_
  have c := h2.mono (q := G) fun k hk => by rw [hk]; exact hD.hd
  exact ⟨h1, c.mono hGF, hk _ _ c (h3.mono fun k hk => .inl hk)⟩
theorem lfaults_m (l : LogM w F q p g) (v : Value) (ps : List Bool) (hl : ps.length ≤ 1048576) (hv : Sl bv w v ps) :
    Calls Tryd.prog 23 #[.pointer (some ⟨p, 0, none⟩), v] w fun e w' => e = .returned (.tuple #[]) ∧ Chg F w w' ∧ LogM w' (grow F w) q p ⟨faults ps g.d, g.h, g.u⟩ := by
  obtain ⟨G, hD, hGF, hGs, hk⟩ := l.disk
  exact (faults_any hD v ps hl hv).mono fun e w' ⟨h1, h2, h3⟩ => ⟨h1, h2.mono hGF, hk _ _ h2 h3⟩
theorem lcrash_m (l : LogM w F q p g) (v : Value) (cuts : List UInt8) (hv : ∀ w', Chg F w w' → Bytes w' v cuts) :
    Calls Tryd.prog 27 #[.pointer (some ⟨p, 0, none⟩), v] w fun e w' => e = .returned (.tuple #[]) ∧ Chg F w w' ∧ LogM w' (grow F w) q p ⟨crash cuts g.d, g.h, g.u⟩ := by
  obtain ⟨G, hD, hGF, hGs, hk⟩ := l.disk
  exact (crash_any hD v cuts (fun w' c => hv w' (c.mono hGF))).mono fun e w' ⟨h1, h2, h3⟩ => ⟨h1, h2.mono hGF, hk _ _ h2 (h3.mono fun k hk => .inl hk)⟩
theorem lopen_l (l : LogM w F q p g) (hw : Halves w) :
    Calls Tryd.prog 37 #[.pointer (some ⟨p, 0, none⟩)] w (Ret fun r w' => Ext w w' ∧ ((openE g.d ≠ 0 ∧ r = .tuple #[.pointer none, .int .i64 (openE g.d)]) ∨
      (openE g.d = 0 ∧ ∃ q', r = .tuple #[.pointer (some ⟨q', 0, none⟩), .int .i64 0] ∧ w.heap.size ≤ q' ∧ LogM w' (grow F w) q' p ⟨g.d, openH g.d, openU g.d⟩))) := by
  obtain ⟨G, hD, hGF, hGs, hk⟩ := l.disk
  exact lopen_m hD hGF hw
end
/-! ### lists that are appended onto -/
theorem OwnLL.chgO {w w' : World} {base : Nat} {F G : Nat → Prop} {v : Value} {ls : List (List UInt8)} (h : OwnLL w base G v ls) (c : Chg F w w') (hb : ∀ k, v.ownBlock = some k → ¬ F k) (hG : ∀ k, G k → k < w.heap.size → ¬ F k) : OwnLL w' base G v ls := by
  obtain ⟨vs, ⟨h1, h2⟩, h3⟩ := h
  refine ⟨vs, ⟨h1, ?_⟩, fun j l hj => ?_⟩
  · rcases h2 with h | ⟨g, cap, cur, rfl, k2, k3, r⟩
    · exact .inl h
    · have hl := (Array.getElem?_eq_some_iff.1 k3).1
      exact .inr ⟨g, cap, cur, rfl, k2, by rw [c.block g hl (hb g rfl)]; exact k3, r⟩
  · obtain ⟨x, k1, k2, k3, k4⟩ := h3 j l hj
    exact ⟨x, k1, k2, k3.chgV c fun k hk hl => hG k (k4 k hk hl).1 (k3.blk_lt hl k hk), k4⟩
theorem run_appendLLx (w : World) (ty : TypeId) (base : Nat) (G : Nat → Prop) (v : Value) (ls : List (List UInt8)) (hown : OwnLL w base G v ls) (a : Addr) (c : Nat) (us : List Value) (ms : List (List UInt8)) (hul : us.length = ms.length) (hc : ∀ (j : Nat) (u : Value), us[j]? = some u → w.cell? (a.add j) = some u)
    (hb : ∀ (j : Nat) (u : Value) (m : List UInt8), us[j]? = some u → ms[j]? = some m → u.oneCell' = true ∧ Bytes w u m ∧ ∀ k, vblk u = some k → m ≠ [] → G k ∧ v.ownBlock ≠ some k) (hlen : ls.length + ms.length ≤ 1048576) (hbase : base ≤ w.heap.size) :
    ∃ v' w', (Builtin.append_ #[74, 74] ty #[v, .slice (some a) ms.length c]).run Tryd.prog w = .ok v' w' ∧ OwnLL w' base G v' (ls ++ ms) ∧ w.grownBy w' v.ownBlock ∧ (v'.ownBlock = v.ownBlock ∨ v'.ownBlock = some w.heap.size) := by
  obtain ⟨vs, hr, h3⟩ := hown
  obtain ⟨i, hi, hz0, hz1, hz2⟩ := info_parts infoLL
  obtain ⟨v', w', q1, q2, q3, -, q5⟩ := run_append_own_at (P := Tryd.prog) w base 74 ty 23 i (.slice none 0 0) 1 24 Tryd.underlying74 hi hz0 hz1 hz2 rfl (by decide) v ls.length vs hr a ms.length c us (by rw [hul, Nat.mul_one])
    hc (fun u hu => by
      obtain ⟨j, hj, e⟩ := List.getElem_of_mem hu
      have h1 : us[j]? = some u := by rw [List.getElem?_eq_getElem hj, e]
      exact (hb j u (ms[j]'(by omega)) h1 (List.getElem?_eq_getElem (by omega))).1) (by unfold maxLen; omega) (by omega) hbase
  refine ⟨v', w', q1, ⟨vs ++ us, by rw [List.length_append]; exact q2, fun j l' hj => ?_⟩, q3, q5⟩
  have hvl : vs.length = ls.length := by have := hr.1; omega
  have hnew : ∀ y m, Bytes w y m → (∀ k, vblk y = some k → m ≠ [] → G k ∧ v.ownBlock ≠ some k) → Bytes w' y m ∧ ∀ k, vblk y = some k → m ≠ [] → G k ∧ v'.ownBlock ≠ some k := fun y m hy hk => by
    refine ⟨hy.grown q3 fun k hk1 hk2 => (hk k hk1 hk2).2, fun k hk1 hk2 => ⟨(hk k hk1 hk2).1, ?_⟩⟩
    rcases q5 with e | e
    · rw [e]; exact (hk k hk1 hk2).2
    · rw [e]
      have := hy.blk_lt hk2 k hk1
      simp; omega
  by_cases hjl : j < ls.length
  · rw [List.getElem?_append_left hjl] at hj
    obtain ⟨x, k1, k2, k3, k4⟩ := h3 j l' hj
    obtain ⟨m1, m2⟩ := hnew x l' k3 k4
    exact ⟨x, by rw [List.getElem?_append_left (by omega)]; exact k1, k2, m1, m2⟩
  · rw [List.getElem?_append_right (by omega)] at hj
    have hjm := (List.getElem?_eq_some_iff.1 hj).1
    have hu : us[j - ls.length]? = some (us[j - ls.length]'(by omega)) := List.getElem?_eq_getElem (by omega)
    obtain ⟨b1, b2, b3⟩ := hb _ _ _ hu hj
    obtain ⟨m1, m2⟩ := hnew _ l' b2 b3
    exact ⟨_, by rw [List.getElem?_append_right (by omega), hvl]; exact hu, b1, m1, m2⟩
theorem wpList_appendLLx {ops : Array Oper} {rest : List Oper} {o : Oper} {a : Act} {w : World} {Q : Exit → Act → World → Prop} (hgd : o.guard = none) (s x : Operand)
    (ho : o.op = .call { callee := .builtin .append, args := #[s, x], argTypes := #[74, 74] })
    (base : Nat) (G : Nat → Prop) (v : Value) (ls : List (List UInt8)) (hs : a.eval s = v) (hown : OwnLL w base G v ls) (g c : Nat) (hx : a.eval x = .slice (some ⟨g, 0, none⟩) 1 c) (u : Value) (l : List UInt8) (hc : w.cell? ⟨g, 0, none⟩ = some u) (h1 : u.oneCell' = true) (hb : Bytes w u l)
    (hu : ∀ k, vblk u = some k → l ≠ [] → G k ∧ v.ownBlock ≠ some k) (hlen : ls.length ≤ 1048000) (hbase : base ≤ w.heap.size)
    (h : ∀ v' w', OwnLL w' base G v' (ls ++ [l]) → w.grownBy w' v.ownBlock → (v'.ownBlock = v.ownBlock ∨ v'.ownBlock = some w.heap.size) → wpList Tryd.prog ops Q rest (a.put o.dst v') w') : wpList Tryd.prog ops Q (o :: rest) a w := by
  refine wpList_plain hgd fun K hK => ?_
  obtain ⟨v', w', hr, h2, h3, h4⟩ := run_appendLLx w o.type base G v ls hown ⟨g, 0, none⟩ c [u] [l] rfl
    (fun j y hy => by
      match j, hy with
      | 0, hy => simp at hy; subst hy; simpa [Addr.add] using hc)
    (fun j y m hy hm => by
      match j, hy, hm with
      | 0, hy, hm => simp at hy hm; subst hy; subst hm; exact ⟨h1, hb, hu⟩) (by simp; omega) hbase
  unfold Oper.wp execOp
  simp only [ho, resolve, invoke, builtin, Sem.run_bind, Sem.run_pure, Result.andThen_ok, List.map_toArray, List.map_cons, List.map_nil, hs, hx]
  rw [show ([l] : List (List UInt8)).length = 1 from rfl] at hr
  simp only [hr, Result.andThen_ok]
  exact hK _ _ (h v' w' h2 h3 h4)
/-! ### what a round leaves, plain -/
theorem keep_stop {c : Nat} {g : Lg} {rs : List (List UInt8)} (l : Lw c g rs) (b cuts : List UInt8) (hc : cutAt cuts 0 = c) (s : Nat) :
    ∃ rs', Lw c ⟨crash cuts (opL (.app b) ⟨stop s g.d, g.h, g.u⟩).2.d, openH (crash cuts (opL (.app b) ⟨stop s g.d, g.h, g.u⟩).2.d), openU (crash cuts (opL (.app b) ⟨stop s g.d, g.h, g.u⟩).2.d)⟩ rs' ∧
      openE (crash cuts (opL (.app b) ⟨stop s g.d, g.h, g.u⟩).2.d) = 0 ∧ scan (openU (crash cuts (opL (.app b) ⟨stop s g.d, g.h, g.u⟩).2.d)) = rs' ∧
      (((opL (.app b) ⟨stop s g.d, g.h, g.u⟩).1 = 0 ∧ rs' = rs ++ [b]) ∨ ((opL (.app b) ⟨stop s g.d, g.h, g.u⟩).1 ≠ 0 ∧ rs' = rs) ∨ ((opL (.app b) ⟨stop s g.d, g.h, g.u⟩).1 = 21 ∧ rs' = rs ++ [b])) := by
  obtain ⟨_, _, h, u, hk⟩ := op_stop (.app b) l s cuts hc
  generalize opL (.app b) ⟨stop s g.d, g.h, g.u⟩ = r at *
  have hn : nextR (.app b) rs = rs ++ [b] := rfl
  rw [hn] at hk
  have key : ∀ rs', Lw c ⟨crash cuts r.2.d, h, u⟩ rs' → Lw c ⟨crash cuts r.2.d, openH (crash cuts r.2.d), openU (crash cuts r.2.d)⟩ rs' ∧ openE (crash cuts r.2.d) = 0 ∧ scan (openU (crash cuts r.2.d)) = rs' := fun rs' hl => by
    obtain ⟨f1, f2, f3, f4⟩ := hl.found
    simp only at f1 f2 f3 f4
    rw [f1, f2]
    exact ⟨hl, f3, f4⟩
  rcases hk with ⟨h1, h2⟩ | ⟨h1, h2⟩ | ⟨h1, h2⟩
  · obtain ⟨k1, k2, k3⟩ := key _ h2
    exact ⟨_, k1, k2, k3, .inl ⟨h1, rfl⟩⟩
  · obtain ⟨k1, k2, k3⟩ := key _ h2
    exact ⟨_, k1, k2, k3, .inr (.inl ⟨h1, rfl⟩)⟩
  · obtain ⟨k1, k2, k3⟩ := key _ h2
    exact ⟨_, k1, k2, k3, .inr (.inr ⟨h1, rfl⟩)⟩
theorem keep_calm {c : Nat} {g : Lg} {rs : List (List UInt8)} (l : Lw c g rs) (b : List UInt8) :
    ∃ rs', Lw c ⟨(opL (.app b) g).2.d, openH (opL (.app b) g).2.d, openU (opL (.app b) g).2.d⟩ rs' ∧
      openE (opL (.app b) g).2.d = 0 ∧ scan (openU (opL (.app b) g).2.d) = rs' ∧ (((opL (.app b) g).1 = 0 ∧ rs' = rs ++ [b]) ∨ ((opL (.app b) g).1 ≠ 0 ∧ rs' = rs) ∨ ((opL (.app b) g).1 = 21 ∧ rs' = rs ++ [b])) := by
  have key : ∀ (g' : Lg) rs', Lw c g' rs' → Lw c ⟨g'.d, openH g'.d, openU g'.d⟩ rs' ∧ openE g'.d = 0 ∧ scan (openU g'.d) = rs' := fun g' rs' hl => by
    obtain ⟨f1, f2, f3, f4⟩ := hl.found
    rw [f1, f2]
    exact ⟨hl, f3, f4⟩
  rcases op_calm (.app b) l with ⟨e, _, h2, h3⟩ | ⟨d', h', u', i0, _, h2, h3, _⟩
  · rw [h2]
    obtain ⟨k1, k2, k3⟩ := key g rs l
    exact ⟨rs, k1, k2, k3, .inr (.inl ⟨by show e ≠ 0; omega, rfl⟩)⟩
  · rw [h2]
    obtain ⟨k1, k2, k3⟩ := key _ _ h3
    exact ⟨_, k1, k2, k3, .inl ⟨rfl, rfl⟩⟩
end Go.Proofs.YtkdmljijgfejpaaDoor


