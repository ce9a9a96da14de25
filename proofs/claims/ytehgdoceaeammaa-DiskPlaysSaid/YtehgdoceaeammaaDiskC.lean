/- The program's disk: Sync; copies into bytes. -/
import Derived.Test.YtehgdoceaeammaaDiskB
import Derived.Deep.RegionHeld3
import Derived.Deep.DeepCutAuto
namespace Go.Proofs.Ytehgdoceaeammaa
open Go.RowKit Dk

theorem Chg.cell {P : Nat → Prop} {w w' : World} (c : Chg P w w') {a : Addr} {v : Value} (h : w.cell? a = some v) (hn : ¬ P a.block) : w'.cell? a = some v := (World.cell?_of_block (c.block a.block (World.block_lt_of_cell? w a h) hn)).trans h
/-! ### copy -/
theorem info_u8 : (Try.prog.info? 5).map (·.size) = some 1 := by kernel_rfl
theorem take_bytes {w : World} {a : Option Addr} {cap : Nat} {l : List UInt8} (h : BytesAt w a cap l) {n : Nat} {ad : Addr} (ha : a = some ad) : ∀ j v, ((l.take n).map u8v)[j]? = some v → w.cell? (ad.add j) = some v := fun j v hv => by
  rw [List.getElem?_map] at hv
  obtain ⟨c, hc, rfl⟩ := Option.map_eq_some_iff.1 hv
  rw [List.getElem?_take] at hc
  split at hc
  · obtain ⟨hj, rfl⟩ := List.getElem?_eq_some_iff.1 hc
    obtain ⟨g, o, e, hcell⟩ := h.cells j hj
    rw [ha] at e
    cases e
    rw [Addr.add_lit]; exact hcell
  · cases hc
theorem run_copyB (w : World) (ty : TypeId) (g off dLen dCap : Nat) (cur : Array Value) (t : TypeId) (hg : w.heap[g]? = some (.cells cur t (0, 0))) (u : Value) (l : List UInt8) (hb : Bytes w u l) (hfit : off + dLen ≤ cur.size) :
    ∃ w', (Builtin.copy_ #[22, 22] ty #[.slice (some ⟨g, off, none⟩) dLen dCap, u]).run Try.prog w = .ok (goInt (l.take dLen).length) w' ∧
      w'.heap[g]? = some (.cells (cur.toList.take off ++ (l.take dLen).map u8v ++ cur.toList.drop (off + (l.take dLen).length)).toArray t (0, 0)) ∧ Chg (fun k => k = g) w w' := by
  obtain ⟨a, cap, rfl, hb⟩ := hb
  by_cases h0 : Nat.min l.length dLen = 0
  · have hrun := run_copy_none (P := Try.prog) w 22 22 ty 5 (some ⟨g, off, none⟩) a dLen dCap l.length cap Try.underlying22 info_u8 h0
    have hl : l.take dLen = [] := by
      apply List.eq_nil_of_length_eq_zero
      rw [List.length_take, Nat.min_comm]; exact h0
    refine ⟨w, by rw [hl]; exact hrun, ?_, Chg.refl _ _⟩
    rw [hl]; simpa using hg
  · cases a with
    | none =>
      have := hb.none rfl
      have := hb.le
      exfalso; apply h0
      have : l.length = 0 := by omega
      rw [this]; exact Nat.zero_min _
    | some ad =>
      have hrun := run_copy_row (P := Try.prog) w 22 22 ty 5 g off dLen dCap ad l.length cap cur t ((l.take dLen).map u8v) Try.underlying22 info_u8 hg (by rw [List.length_map, List.length_take, Nat.min_comm]) (take_bytes hb rfl) (by simp; omega) (fun v hv => by
        obtain ⟨c, _, rfl⟩ := List.mem_map.1 hv
        rfl)
      rw [List.length_map] at hrun
      refine ⟨_, hrun, ?_, ⟨rfl, rfl, rfl, by simp [World.setRow], fun k hk hp => setRow_other w g k _ hp⟩⟩
      exact setRow_heap w g cur _ t _ hg
theorem wpList_copyB {ops : Array Oper} {rest : List Oper} {o : Oper} {a : Act} {w : World} {Q : Exit → Act → World → Prop} (hgd : o.guard = none) (x y : Operand)
    (ho : o.op = .call { callee := .builtin .copy, args := #[x, y], argTypes := #[22, 22] })
    (g off dLen dCap : Nat) (hx : a.eval x = .slice (some ⟨g, off, none⟩) dLen dCap) (cur : Array Value) (t : TypeId) (hg : w.heap[g]? = some (.cells cur t (0, 0))) (u : Value) (l : List UInt8) (hy : a.eval y = u) (hb : Bytes w u l) (hfit : off + dLen ≤ cur.size)
    (h : ∀ w', w'.heap[g]? = some (.cells (cur.toList.take off ++ (l.take dLen).map u8v ++ cur.toList.drop (off + (l.take dLen).length)).toArray t (0, 0)) → Chg (fun k => k = g) w w' → wpList Try.prog ops Q rest (a.put o.dst (goInt (l.take dLen).length)) w') : wpList Try.prog ops Q (o :: rest) a w := by
  obtain ⟨w', hrun, h1, h2⟩ := run_copyB w o.type g off dLen dCap cur t hg u l hb hfit
  refine wpList_plain hgd fun K hK => ?_
  unfold Oper.wp
  simp only [execOp, ho, resolve, invoke, builtin, Sem.run_bind, Sem.run_pure, Result.andThen_ok, List.map_toArray, List.map_cons, List.map_nil, hx, hy, hrun]
  exact hK _ _ (h w' h1 h2)
theorem step_copyB {ops : Array Oper} {o : Oper} {a : Act} {w : World} {K : Act → World → Prop} {Q : Exit → Act → World → Prop} {E : Prop} (hgd : o.guard = none) (x y : Operand)
    (ho : o.op = .call { callee := .builtin .copy, args := #[x, y], argTypes := #[22, 22] })
    (g off dLen dCap : Nat) (hx : a.eval x = .slice (some ⟨g, off, none⟩) dLen dCap) (cur : Array Value) (t : TypeId) (hg : w.heap[g]? = some (.cells cur t (0, 0))) (u : Value) (l : List UInt8) (hy : a.eval y = u) (hb : Bytes w u l) (hfit : off + dLen ≤ cur.size)
    (h : ∀ w', w'.heap[g]? = some (.cells (cur.toList.take off ++ (l.take dLen).map u8v ++ cur.toList.drop (off + (l.take dLen).length)).toArray t (0, 0)) → Chg (fun k => k = g) w w' → K (a.put o.dst (goInt (l.take dLen).length)) w') :
    if Region.wanted o (yielded ops a.tmps) = true then Oper.wp Try.prog o a w K Q else E := by
  have hw : Region.wanted o (yielded ops a.tmps) = true := by simp [Region.wanted, hgd]
  obtain ⟨w', hrun, h1, h2⟩ := run_copyB w o.type g off dLen dCap cur t hg u l hb hfit
  rw [if_pos hw]
  unfold Oper.wp
  simp only [execOp, ho, resolve, invoke, builtin, Sem.run_bind, Sem.run_pure, Result.andThen_ok, List.map_toArray, List.map_cons, List.map_nil, hx, hy, hrun]
  exact h w' h1 h2
theorem splice_cells {cur : Array Value} {K m : List UInt8} (hc : cur.toList = K.map u8v) (o : Nat) : (cur.toList.take o ++ m.map u8v ++ cur.toList.drop (o + m.length)) = (over K o m).map u8v := by
  simp [hc, over]

/-! ### Sync -/
/-- while blocks are laid -/
structure Lay (w : World) (F : Nat → Prop) (p gk n : Nat) (s v : Value) (off : Bool) (z : Int) (d : D) (K : List UInt8) : Prop where
  head : w.heap[p]? = some (.cells (hdr gk n s v off z) 60 (0, 0))
  parts : Parts w F gk s v { d with kept := K }
theorem Parts.kept_to {w w' : World} {F : Nat → Prop} {gk : Nat} {s v : Value} {d : D} {K K' : List UInt8} (h : Parts w F gk s v { d with kept := K }) (c : Chg (fun k => k = gk) w w') {cur : Array Value} (hk : w'.heap[gk]? = some (.cells cur 63 (0, 0))) (hc : cur.toList = K'.map u8v) : Parts w' F gk s v { d with kept := K' } := by
  obtain ⟨c0, h1, h2⟩ := h.kept
  exact ⟨⟨cur, hk, hc⟩, h.fk, h.st.chg c fun g _ hg _ => apart hg h1 (by decide), h.plan.chgT c fun g _ hg _ => apart hg h1 (by decide)⟩
theorem Lay.put {w w' : World} {F : Nat → Prop} {p gk n : Nat} {s v : Value} {off : Bool} {z : Int} {d : D} {K K' : List UInt8} (h : Lay w F p gk n s v off z d K) (c : Chg (fun k => k = gk) w w') {cur : Array Value} (hk : w'.heap[gk]? = some (.cells cur 63 (0, 0))) (hc : cur.toList = K'.map u8v) : Lay w' F p gk n s v off z d K' := by
  obtain ⟨c0, h1, h2⟩ := h.parts.kept
  exact ⟨by rw [c.block p (Array.getElem?_eq_some_iff.1 h.head).1 (apart h.head h1 (by decide))]; exact h.head, h.parts.kept_to c hk hc⟩
theorem Lay.ext {w w' : World} {F : Nat → Prop} {p gk n : Nat} {s v : Value} {off : Bool} {z : Int} {d : D} {K : List UInt8} (h : Lay w F p gk n s v off z d K) (e : Ext w w') : Lay w' F p gk n s v off z d K :=
  ⟨e.heap h.head, h.parts.chg (G := fun _ => False) (Chg.of_ext e) fun _ _ => id⟩

set_option maxRecDepth 20000 in
set_option maxHeartbeats 1000000 in
theorem sync_any {w : World} {F : Nat → Prop} {p : Nat} {d : D} (h : Disk w F p d) :
    Calls Try.prog 13 #[.pointer (some ⟨p, 0, none⟩)] w fun e w' => e = .returned (.int .i64 (syncE d)) ∧ Chg F w w' ∧ Disk w' F p (sync d) := by
  have hfl := fails_any h
  have hFp : F p := by obtain ⟨gk, s, v, z, h1, h2, r⟩ := h; exact h2
  cases hf : fl d
  · have hS : RowKit.Hid (syncE d = 0 ∧ sync d = { after d with kept := lay d.kept d.st (fun _ => 32) d.st.length, st := [] }) := Lib.hid (by unfold syncE sync; rw [hf]; exact ⟨rfl, rfl⟩)
    rw [hf] at hfl
    go_enter Try.func13, Try.ntmps13
    go_upto_region 3 with (go_at_call 37; refine hfl.mono ?_; rintro e w1 ⟨rfl, hc1, hD1⟩)
    obtain ⟨gk, s, v, z, h1, h2, h3, r1, r2, r3, rok⟩ := hD1
    have hKe := after_kept d
    have hSe := after_st d
    have hat := rok.at_
    have hlen := rok.len
    have hne : (after d).n = d.n := D.n_of hKe
    rw [hne] at h1 hlen
    rw [hSe, hne] at hat
    rw [hKe] at hlen
    obtain ⟨a, cap, rfl, hsm, -⟩ := st_range h3.st rok.at_
    rw [hSe] at h1 h3 hsm
    unfold maxLen at hsm
    obtain ⟨c0, c1, c2, c3, c4, ff⟩ := hdr_cells h1
    have hL0 : Lay w1 F p gk d.n (.slice a d.st.length cap) v (after d).off z (after d) (lay d.kept d.st (fun _ => 32) 0) := ⟨h1, h3.to (by rw [lay]; exact hKe.symm) rfl rfl⟩
    have hlenh := Lib.hid hlen
    have hath := Lib.hid hat
    have hSeh := Lib.hid hSe
    have hneh := Lib.hid hne
    have hrest := Lib.hid (And.intro r1 (And.intro r2 r3))
    have hokS := Lib.hid (sync_ok (h.choose_spec.choose_spec.choose_spec.choose_spec.2.2.2.2.2.2))
    have hL0h := Lib.hid hL0
    clear hKe hSe hat hlen hne r1 r2 r3 h1 h3 rok hL0 h hfl
    go_wp2
    go_loopw [12] (fun ix wr => ∃ k : Nat, k ≤ d.st.length ∧ ix = .int .i64 (k : Int) ∧ Lay wr F p gk d.n (.slice a d.st.length cap) v (after d).off z (after d) (lay d.kept d.st (fun _ => 32) k) ∧ Chg F w wr) (fun ix _ => d.st.length - (intOf ix).toNat)
    case atStart => exact ⟨0, Nat.zero_le _, rfl, hL0h.out, hc1.mono fun k hk => by rw [hk]; exact hFp⟩
    case round =>
      clear hc1 c0 c1 c2 c3 c4 ff
      obtain ⟨k, hk, rfl, hL, ek⟩ := hrel
      by_cases hlt : k < d.st.length
      · obtain ⟨x, hx⟩ : ∃ x, d.st[k]? = some x := ⟨_, List.getElem?_eq_getElem hlt⟩
        have hxd : d.st.getD k (0, []) = x := by rw [List.getD_eq_getElem?_getD, hx]; rfl
        obtain ⟨hx1, hx2⟩ := hath.out x (List.mem_of_getElem? hx)
        have hst : OwnF 65 33 wr F (.slice a d.st.length cap) d.st.length (d.st.flatMap wcells) := by
          have := hL.parts.st
          rw [show ({ after d with kept := lay d.kept d.st (fun _ => 32) k } : D).st = d.st from hSeh.out] at this
          exact this
        obtain ⟨a', cap', e, hsm', hst'⟩ := st_range hst hath.out
        cases e
        obtain ⟨g, cg, rfl, hFg, hgg, hrx⟩ := hst' k x hx
        obtain ⟨cur, hkk, hcur⟩ := hL.parts.kept
        obtain ⟨c0, c1, c2, c3, c4, ff⟩ := hdr_cells hL.head
        have hKl := lay_length hlenh.out hath.out (fun _ => 32) (fun _ => Nat.le_refl _) k hk
        have hwl : (wcells x).length = 33 := by simp [wcells, hx2]
        have hws := Lib.hid (wcA_size hx2)
        have eW := (Ext.refl wr).alloc (.cells (wcA x) 65)
        have hnew : (wr.alloc (.cells (wcA x) 65)).heap[wr.heap.size]? = some (.cells (wcA x) 65 (0, 0)) := heap_alloc_new _ _
        have d0 := eW.cell c0
        have d1 : (wr.alloc (.cells (wcA x) 65)).cell? ⟨wr.heap.size, 0, none⟩ = some (.int .i64 (x.1 : Int)) := by rw [cell_of_row _ _ _ _ _ _ hnew, wcA_at]
        have d2 := wcA_range hnew
        have hk2 := eW.heap hkk
        have d3 := kept_there hk2 hcur (x.1 * 32) 32 (by show _ ≤ (lay d.kept d.st (fun _ => 32) k).length; rw [hKl]; omega)
        have hsp := kept_splice (w := (wr.alloc (.cells (wcA x) 65)).drew) hk2 hcur (m := x.2) (x.1 * 32) (by show _ ≤ (lay d.kept d.st (fun _ => 32) k).length; rw [hKl]; omega)
        have hstep : RowKit.Hid (lay d.kept d.st (fun _ => 32) (k + 1) = over (lay d.kept d.st (fun _ => 32) k) (x.1 * 32) x.2) := Lib.hid (by
          rw [lay, hxd, List.take_of_length_le (by omega), Nat.mul_comm])
        have hu := Try.underlying63
        have hbl : (bc x.2).length = 32 := by rw [bc_length, hx2]
        have hin : (Try.prog.info? 63).map (·.size) = some (bc x.2).length := by rw [hbl]; exact info_block
        have hone : ∀ v ∈ bc x.2, v.oneCell' = true := fun v hv => by
          obtain ⟨c, _, rfl⟩ := List.mem_map.1 hv
          rfl
        have hL2 := Lib.hid (hL.ext eW)
        have hcS : Chg (fun k => k = gk) (wr.alloc (.cells (wcA x) 65)) ((wr.alloc (.cells (wcA x) 65)).drew.setCells gk (x.1 * 32) (bc x.2)) := ((Chg.refl _ _).drew).trans (setCells_chg (p := fun k => k = gk) gk rfl _ _ _)
        have hgl := (Array.getElem?_eq_some_iff.1 hkk).1
        have f0 := hcS.cell d0 (apart hL.head hkk (by decide))
        have f1 := hcS.cell d1 (by show ¬ wr.heap.size = gk; omega)
        have f2 : ((wr.alloc (.cells (wcA x) 65)).drew.setCells gk (x.1 * 32) (bc x.2)).rangeAt wr.heap.size 1 (bc x.2) := fun j v hv => hcS.cell (d2 j v hv) (by show ¬ wr.heap.size = gk; omega)
        have f3 := World.there_setCells (w := (wr.alloc (.cells (wcA x) 65)).drew) d3 gk (x.1 * 32) (bc x.2)
        have hcS2 := Lib.hid hcS
        clear hcS hgl
        have hxi : (x.1 : Int) < (d.n : Int) := by omega
        have hx0 : (0 : Int) ≤ (x.1 : Int) := by omega
        have hsp2 := Lib.hid hsp
        have hFgk := hL.parts.fk
        clear hst hst' hx hxd hgg hnew hsp hk2 hkk hcur hL c1 c2 c3 c4 ff hKl
        go_upto_region 6 with (first
          | (refine wpList_load_mid rfl 65 _ rfl g (k * 33) rfl (wcells x) _ hrx Try.underlying65 rfl (by rw [hwl]; exact info_write) ?_)
          | (refine wpList_store_new wr rfl 65 _ _ rfl (wcA x) _ rfl rfl rfl 33 info_write hws.out rfl (wcA_one _) ?_))
        go_region_held3 (fun W => W.cell? ⟨p, 0, none⟩ = some (.slice (some ⟨gk, 0, none⟩) d.n d.n) ∧ W.cell? ⟨wr.heap.size, 0, none⟩ = some (.int .i64 (x.1 : Int)) ∧ W.rangeAt wr.heap.size 1 (bc x.2) ∧ W.there gk (x.1 * 32) 32)
          ((first | exact ⟨d0, d1, d2, d3⟩ | exact ⟨f0, f1, f2, f3⟩))
          (first | fail)
        go_wp2
        go_roundw
        case rel =>
          obtain ⟨cur', q1, q2⟩ := hsp2.out
          exact ⟨k + 1, by omega, by go_num, by rw [hstep.out]; exact hL2.out.put hcS2.out q1 q2, (ek.alloc _).trans (hcS2.out.mono fun j hj => by rw [hj]; exact hFgk)⟩
        case measure => simp [intOf]; omega
      · obtain rfl : k = d.st.length := by omega
        obtain ⟨c0, c1, c2, c3, c4, ff⟩ := hdr_cells hL.head
        go_wp2
        go_ret
        have c := (Chg.refl (fun k => k = p) wr).set 1 (.slice none 0 0)
        refine ⟨by rw [hS.out.1]; rfl, ek.trans (c.mono fun k hk => by rw [hk]; exact hFp), ?_⟩
        rw [hS.out.2]
        have hP := hL.parts.own hL.head c
        have hn : ({ after d with kept := lay d.kept d.st (fun _ => 32) d.st.length, st := [] } : D).n = d.n := by
          show (lay _ _ _ _).length / 32 = _
          rw [lay_length hlenh.out hath.out _ (fun _ => Nat.le_refl _) _ (Nat.le_refl _)]; omega
        refine ⟨gk, _, v, z, ?_, hFp, ⟨hP.kept, hP.fk, OwnF.nil _ _ _ _, hP.plan⟩, hrest.out.1, hrest.out.2.1, hrest.out.2.2, by rw [← hS.out.2]; exact hokS.out⟩
        rw [hn]; exact hdr_set1 hL.head
  · have hS : RowKit.Hid (syncE d = 21 ∧ sync d = after d) := Lib.hid (by unfold syncE sync; rw [hf]; exact ⟨rfl, rfl⟩)
    rw [hf] at hfl
    go_enter Try.func13, Try.ntmps13
    go_wp2_with (go_at_call 37; refine hfl.mono ?_; rintro e w1 ⟨rfl, hc1, hD1⟩)
    go_ret
    exact ⟨by rw [hS.out.1]; rfl, hc1.mono fun k hk => by rw [hk]; exact hFp, by rw [hS.out.2]; exact hD1⟩
end Go.Proofs.Ytehgdoceaeammaa
