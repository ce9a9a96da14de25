/- The program's disk: blocks that are read. -/
import Derived.Test.YtehgdoceaeammaaDiskA
import Derived.Deep.DeepCutAuto
namespace Go.Proofs.Ytehgdoceaeammaa
open Go.RowKit Dk

/-! ### ranges -/
theorem setCells_list (g : Nat) (E : TypeId) (fr : Nat × Nat) : ∀ (vs : List Value) (o : Nat) (w : World) (cur : Array Value), w.heap[g]? = some (.cells cur E fr) → o + vs.length ≤ cur.size →
    (w.setCells g o vs).heap[g]? = some (.cells (cur.toList.take o ++ vs ++ cur.toList.drop (o + vs.length)).toArray E fr)
  | [], o, w, cur, h, _ => by
    simp only [World.setCells, List.append_nil, List.length_nil, Nat.add_zero, List.take_append_drop]
    exact h
  | v :: rest, o, w, cur, h, hl => by
    simp only [List.length_cons] at hl
    have ih := setCells_list g E fr rest (o + 1) (w.setCell ⟨g, o, none⟩ v) _ (setCell_row w g o cur E fr v h) (by simp; omega)
    rw [World.setCells, ih]
    congr 3
    have e := list_seg_step cur.toList o v rest (by simp; omega)
    simpa [Array.toList_setIfInBounds, Nat.add_assoc, Nat.add_comm 1] using e
theorem kept_range {w : World} {gk : Nat} {cur : Array Value} {E : TypeId} {fr : Nat × Nat} {K : List UInt8} (h : w.heap[gk]? = some (.cells cur E fr)) (hc : cur.toList = K.map u8v) (o n : Nat) : w.rangeAt gk o (((K.drop o).take n).map u8v) := fun j v hv => by
  rw [cell_of_row w gk (o + j) cur _ _ h, ← Array.getElem?_toList, hc]
  rw [List.getElem?_map] at hv ⊢
  rw [List.getElem?_take] at hv
  split at hv
  · rwa [List.getElem?_drop] at hv
  · cases hv
theorem kept_there {w : World} {gk : Nat} {cur : Array Value} {E : TypeId} {K : List UInt8} (h : w.heap[gk]? = some (.cells cur E (0, 0))) (hc : cur.toList = K.map u8v) (o n : Nat) (hn : o + n ≤ K.length) : w.there gk o n := fun j hj => by
  have hs : cur.size = K.length := by rw [← Array.length_toList, hc, List.length_map]
  exact ⟨by rw [cell_of_row w gk (o + j) cur _ _ h, Array.getElem?_eq_getElem (by omega)]; rfl, by simp [World.frozen?, h]⟩
theorem kept_splice {w : World} {gk : Nat} {cur : Array Value} {E : TypeId} {fr : Nat × Nat} {K m : List UInt8} (h : w.heap[gk]? = some (.cells cur E fr)) (hc : cur.toList = K.map u8v) (o : Nat) (hn : o + m.length ≤ K.length) :
    ∃ cur' : Array Value, (w.setCells gk o (m.map u8v)).heap[gk]? = some (.cells cur' E fr) ∧ cur'.toList = (over K o m).map u8v := by
  have hs : cur.size = K.length := by rw [← Array.length_toList, hc, List.length_map]
  refine ⟨_, setCells_list gk E fr (m.map u8v) o w cur h (by simp; omega), ?_⟩
  simp [hc, over]
theorem flat_get {α : Type} {f : α → List Value} {n : Nat} (hf : ∀ x, (f x).length = n) : ∀ (l : List α) (k j : Nat) (x : α), l[k]? = some x → j < n → (l.flatMap f)[k * n + j]? = (f x)[j]?
  | [], k, j, x, h, _ => by simp at h
  | y :: r, 0, j, x, h, hj => by
    simp only [List.getElem?_cons_zero, Option.some.injEq] at h
    subst h
    rw [List.flatMap_cons, Nat.zero_mul, Nat.zero_add, List.getElem?_append_left (by rw [hf]; exact hj)]
  | y :: r, k + 1, j, x, h, hj => by
    rw [List.getElem?_cons_succ] at h
    rw [List.flatMap_cons, List.getElem?_append_right (by rw [hf, Nat.add_mul]; omega), hf, show (k + 1) * n + j - n = k * n + j by rw [Nat.add_mul]; omega]
    exact flat_get hf r k j x h hj
/-- a staged block, where it lies -/
def wc (x : Nat × List UInt8) : List Value := .int .i64 (x.1 : Int) :: (x.2.take 32 ++ List.replicate (32 - x.2.length) 0).map u8v
theorem wc_length (x : Nat × List UInt8) : (wc x).length = 33 := by simp [wc]; omega
theorem wc_of {x : Nat × List UInt8} (h : x.2.length = 32) : wcells x = wc x := by
  unfold wcells wc
  rw [h, List.take_of_length_le (by omega)]; simp
theorem flat_wc : ∀ {l : List (Nat × List UInt8)}, (∀ x ∈ l, x.2.length = 32) → l.flatMap wcells = l.flatMap wc
  | [], _ => rfl
  | x :: r, h => by rw [List.flatMap_cons, List.flatMap_cons, wc_of (h x (by simp)), flat_wc fun y hy => h y (by simp [hy])]
theorem st_range {w : World} {F : Nat → Prop} {s : Value} {st : List (Nat × List UInt8)} {n : Nat} (h : OwnF 65 33 w F s st.length (st.flatMap wcells)) (hs : ∀ x ∈ st, x.1 < n ∧ x.2.length = 32) :
    ∃ a cap, s = .slice a st.length cap ∧ st.length ≤ maxLen ∧ ∀ k x, st[k]? = some x → ∃ g cur, a = some ⟨g, 0, none⟩ ∧ F g ∧ w.heap[g]? = some (.cells cur 65 (0, 0)) ∧ w.rangeAt g (k * 33) (wcells x) := by
  obtain ⟨a, cap, rfl, hm, hc⟩ := h.shape (by decide)
  refine ⟨a, cap, rfl, hm, fun k x hx => ?_⟩
  have hk : k < st.length := (List.getElem?_eq_some_iff.1 hx).1
  obtain ⟨g, cur, rfl, hF, hh, ht⟩ := hc (by omega)
  refine ⟨g, cur, rfl, hF, hh, fun j v hv => ?_⟩
  have hx2 : x.2.length = 32 := (hs x (List.mem_of_getElem? hx)).2
  have hj : j < 33 := by
    have := (List.getElem?_eq_some_iff.1 hv).1
    simp [wcells, hx2] at this; omega
  have e := flat_get wc_length st k j x hx hj
  rw [← flat_wc fun y hy => (hs y hy).2, ← ht, List.getElem?_take, ← wc_of hx2, hv] at e
  split at e
  · rw [cell_of_row w g _ cur _ _ hh, ← Array.getElem?_toList]; exact e
  · cases e
theorem info_block : (Try.prog.info? 63).map (·.size) = some 32 := by kernel_rfl
theorem info_write : (Try.prog.info? 65).map (·.size) = some 33 := by kernel_rfl

theorem Ext.rowSet {a w : World} (h : Ext a w) {g : Nat} (hg : a.heap.size ≤ g) (cs : Array Value) : Ext a (w.setRow g cs) :=
  ⟨h.os, h.tape, h.output, by simpa [World.setRow] using h.size, fun k hk => (setRow_other w g k cs (by omega)).trans (h.block k hk)⟩
/-- a block's cells -/
def bc (b : List UInt8) : List Value := b.map u8v
theorem bc_length (b : List UInt8) : (bc b).length = b.length := by simp [bc]
theorem bc_one (b : List UInt8) : (bc b).toArray.all (·.oneCell') = true := by
  refine all_oneCell_toArray fun v hv => ?_
  obtain ⟨c, _, rfl⟩ := List.mem_map.1 hv
  rfl
def wcA (x : Nat × List UInt8) : Array Value := (wcells x).toArray
theorem wcA_size {x : Nat × List UInt8} (h : x.2.length = 32) : (wcA x).size = 33 := by simp [wcA, wcells, h]
theorem wcA_one (x : Nat × List UInt8) : (wcA x).all (·.oneCell') = true := by
  refine all_oneCell_toArray fun v hv => ?_
  unfold wcells at hv
  rcases List.mem_cons.1 hv with rfl | hv
  · rfl
  · obtain ⟨c, _, rfl⟩ := List.mem_map.1 hv
    rfl
theorem wcA_at (x : Nat × List UInt8) : (wcA x)[0]? = some (.int .i64 (x.1 : Int)) := by simp [wcA, wcells]
theorem wcA_range {w : World} {g : Nat} {x : Nat × List UInt8} {E : TypeId} {fr : Nat × Nat} (h : w.heap[g]? = some (.cells (wcA x) E fr)) : w.rangeAt g 1 (bc x.2) := fun j v hv => by
  rw [cell_of_row w g _ _ _ _ h]
  unfold wcA wcells
  rw [List.getElem?_toArray, Nat.add_comm 1 j, List.getElem?_cons_succ]
  exact hv
theorem wpList_store_new {P : Program} {ops : Array Oper} {rest : List Oper} {o : Oper} {a : Act} {w : World} {Q : Exit → Act → World → Prop} (W : World) (hgd : o.guard = none) (ty : TypeId) (x y : Operand) (hop : o.op = .store ty x y)
    (cells old : Array Value) (hW : w = W.alloc (.cells old ty)) (hx : a.eval x = .pointer (some ⟨W.heap.size, 0, none⟩)) (hy : a.eval y = .agg cells) (n : Nat) (hi : (P.info? ty).map (·.size) = some n) (hn : cells.size = n) (ho : old.size = n) (h1 : cells.all (·.oneCell') = true)
    (h : wpList P ops Q rest (a.put o.dst undef) (W.alloc (.cells cells ty))) : wpList P ops Q (o :: rest) a w := by
  subst hW
  have hi : (P.info? ty).map (·.size) = some cells.size := by rw [hn]; exact hi
  have hold : old.size = cells.size := ho.trans hn.symm
  refine wpList_store_row hgd ty x y hop W.heap.size cells hx hy ty old (heap_alloc_new W _) hi hold h1 ?_
  rw [show (W.alloc (.cells old ty)).setRow W.heap.size cells = W.alloc (.cells cells ty) from ?_]
  · exact h
  · simp only [World.setRow, World.alloc]
    congr 1
    apply Array.ext_getElem?
    intro i
    rw [Array.getElem?_modify]
    by_cases h : W.heap.size = i
    · subst h
      simp
    · have h' : ¬ i = W.heap.size := fun e => h e.symm
      simp [h, h', Array.getElem?_push]
theorem kept_blk {w : World} {gk : Nat} {cur : Array Value} {E : TypeId} {fr : Nat × Nat} {K : List UInt8} (h : w.heap[gk]? = some (.cells cur E fr)) (hc : cur.toList = K.map u8v) (i : Nat) : w.rangeAt gk (i * 32) (bc (blk K i)) := by
  have := kept_range h hc (i * 32) 32
  rwa [Nat.mul_comm i 32] at this ⊢
theorem Bytes.blk {w : World} {g : Nat} {b : List UInt8} {E : TypeId} {fr : Nat × Nat} (h : w.heap[g]? = some (.cells (bc b).toArray E fr)) (hb : b.length = 32) : Bytes w (.slice (some ⟨g, 0, none⟩) 32 32) b :=
  Bytes.row hb.symm (by omega) (by decide) fun j hj => by
    rw [cell_of_row w g _ _ _ _ h, Nat.zero_add]
    simp [bc, hj, u8v]
theorem Bytes.sub_row {w : World} {g o : Nat} {b : List UInt8} (h : w.rangeAt g o (bc b)) (hb : b.length = 32) : Bytes w (.slice (some ⟨g, o, none⟩) 32 32) b :=
  Bytes.row hb.symm (by omega) (by decide) fun j hj => h j _ (by simp [bc, hj, u8v])
theorem rd_length {K : List UInt8} {st : List (Nat × List UInt8)} {n i : Nat} (hK : K.length = 32 * n) (hs : ∀ x ∈ st, x.1 < n ∧ x.2.length = 32) (hi : i < n) : ∀ k, k ≤ st.length → (rd K st i k).length = 32
  | 0, _ => blk_length hK hi
  | k + 1, hk => by
    rw [rd]
    split
    · have : st.getD k (0, []) ∈ st := by
        rw [List.getD_eq_getElem?_getD, List.getElem?_eq_getElem (by omega)]; exact List.getElem_mem _
      exact (hs _ this).2
    · exact rd_length hK hs hi k (by omega)

set_option maxRecDepth 20000 in
set_option maxHeartbeats 1000000 in
theorem read_own {w : World} {F : Nat → Prop} {p : Nat} {d : D} (h : Disk w F p d) (i : Int) :
    Calls Try.prog 14 #[.pointer (some ⟨p, 0, none⟩), .int .i64 i] w (Ret fun v w' => Bytes w' v (rdB i d) ∧ Ext w w' ∧ (v = .slice none 0 0 ∨ ∃ g n c, v = .slice (some ⟨g, 0, none⟩) n c ∧ w.heap.size ≤ g ∧ g < w'.heap.size)) := by
  have hD := h
  have his := is_any h i
  obtain ⟨gk, s, v, z, h1, h2, h3, r1, r2, r3, rok⟩ := h
  obtain ⟨c0, c1, c2, c3, c4, ff⟩ := hdr_cells h1
  have e0 := Ext.refl w
  cases hh : has d i
  · have hr : RowKit.Hid (rdB i d = []) := Lib.hid (by unfold rdB; rw [hh]; rfl)
    rw [hh] at his
    go_enter Try.func14, Try.ntmps14
    go_wp2_with (go_at_call 36; refine his.mono ?_; rintro e w' ⟨rfl, rfl⟩)
    go_ret
    exact Ret.mk ⟨by rw [hr.out]; exact Bytes.nil _, e0, .inl rfl⟩
  · obtain ⟨i, rfl⟩ : ∃ k : Nat, i = k := ⟨i.toNat, by simp [has] at hh; omega⟩
    have hi : i < d.n := by simp [has] at hh; omega
    have hr : RowKit.Hid (rdB i d = rd d.kept d.st i d.st.length) := Lib.hid (by unfold rdB; rw [hh]; rfl)
    rw [hh] at his
    have hii : (i : Int) < (d.n : Int) := by omega
    obtain ⟨cur, hk, hcur⟩ := h3.kept
    obtain ⟨a, cap, rfl, hsm, hst⟩ := st_range h3.st rok.at_
    have hrg := kept_blk hk hcur i
    have hbl := blk_length rok.len hi
    have hbs : (bc (blk d.kept i)).toArray.size = 32 := by rw [List.size_toArray, bc_length, hbl]
    have d1 := (e0.alloc (.cells (bc (blk d.kept i)).toArray 63)).cell c1
    have hrl := Lib.hid fun k hk => rd_length rok.len rok.at_ hi k hk
    have hat := Lib.hid rok.at_
    have hst2 := Lib.hid hst
    unfold maxLen at hsm
    clear h1 hh hst hD
    have hb0 : RowKit.Hid (rd d.kept d.st i 0 = blk d.kept i) := Lib.hid rfl
    go_enter Try.func14, Try.ntmps14
    go_wp2_with (first
      | (go_at_call 36; refine his.mono ?_; rintro e w' ⟨rfl, rfl⟩)
      | (refine wpList_load_mid rfl 63 _ rfl gk (i * 32) rfl (bc (blk d.kept i)) _ hrg Try.underlying63 rfl (by rw [bc_length, hbl]; exact info_block) ?_)
      | (refine wpList_store_new w rfl 63 _ _ rfl (bc (blk d.kept i)).toArray _ rfl rfl rfl 32 info_block hbs rfl (bc_one _) ?_))
    obtain ⟨g5, hg5⟩ : ∃ g, g = w.heap.size := ⟨_, rfl⟩
    have hn5 : (w.alloc (.cells (bc (blk d.kept i)).toArray 63)).heap[g5]? = some (.cells (bc (rd d.kept d.st i 0)).toArray 63 (0, 0)) := by rw [hg5]; exact heap_alloc_new w _
    have e1 := e0.alloc (.cells (bc (blk d.kept i)).toArray 63)
    rw [← hg5]
    have hg5h := Lib.hid hg5
    clear hg5
    go_loopw [24] (fun ix wr => ∃ k : Nat, k ≤ d.st.length ∧ ix = .int .i64 (k : Int) ∧ wr.heap[g5]? = some (.cells (bc (rd d.kept d.st i k)).toArray 63 (0, 0)) ∧ Ext w wr) (fun ix _ => d.st.length - (intOf ix).toNat)
    case atStart => exact ⟨0, Nat.zero_le _, rfl, hn5, e1⟩
    case round =>
      clear hn5 e1
      obtain ⟨k, hk, rfl, hg, ek⟩ := hrel
      by_cases hlt : k < d.st.length
      · have hst := hst2.out
        obtain ⟨x, hx⟩ : ∃ x, d.st[k]? = some x := ⟨_, List.getElem?_eq_getElem hlt⟩
        have hxd : d.st.getD k (0, []) = x := by rw [List.getD_eq_getElem?_getD, hx]; rfl
        have hx2 := (hat.out x (List.mem_of_getElem? hx)).2
        obtain ⟨g, cg, rfl, hFg, hgg, hrx⟩ := hst k x hx
        have hrx2 : wr.rangeAt g (k * 33) (wcells x) := fun j v hv => ek.cell (hrx j v hv)
        have hwl : (wcells x).length = 33 := by simp [wcells, hx2]
        have hws := Lib.hid (wcA_size hx2)
        have hwa := wcA_at x
        have hnew : (wr.alloc (.cells (wcA x) 65)).heap[wr.heap.size]? = some (.cells (wcA x) 65 (0, 0)) := heap_alloc_new _ _
        have hwr := wcA_range hnew
        have hg2 := ((Ext.refl wr).alloc (.cells (wcA x) 65)).heap hg
        have hlk := hrl.out k (by omega)
        have e2 := ek.alloc (.cells (wcA x) 65)
        have hrd : RowKit.Hid (rd d.kept d.st i (k + 1) = if x.1 = i then x.2 else rd d.kept d.st i k) := Lib.hid (by rw [rd, hxd])
        clear hst hx hxd hrx hgg hnew
        by_cases hxi : x.1 = i
        · have hq : ((x.1 : Int) == (i : Int)) = true := by rw [hxi]; simp
          go_wp2_with (first
            | (refine wpList_load_mid rfl 65 _ rfl g (k * 33) rfl (wcells x) _ hrx2 Try.underlying65 rfl (by rw [hwl]; exact info_write) ?_)
            | (refine wpList_store_new wr rfl 65 _ _ rfl (wcA x) _ rfl rfl rfl 33 info_write hws.out rfl (wcA_one _) ?_)
            | (refine wpList_load_mid rfl 63 _ rfl wr.heap.size 1 rfl (bc x.2) _ hwr Try.underlying63 rfl (by rw [bc_length, hx2]; exact info_block) ?_)
            | (refine wpList_store_row rfl 63 _ _ rfl g5 (bc x.2).toArray rfl rfl 63 _ hg2 (by rw [List.size_toArray, bc_length, hx2]; exact info_block) (by simp [bc_length, hx2, hlk]) (bc_one _) ?_))
          go_roundw
          case rel => exact ⟨k + 1, by omega, by go_num, by rw [hrd.out, if_pos hxi]; exact setRow_heap _ _ _ _ _ _ hg2, e2.rowSet (by have := hg5h.out; omega) _⟩
          case measure => simp [intOf]; omega
        · have hq : ((x.1 : Int) == (i : Int)) = false := by rw [beq_eq_false_iff_ne]; omega
          go_wp2_with (first
            | (refine wpList_load_mid rfl 65 _ rfl g (k * 33) rfl (wcells x) _ hrx2 Try.underlying65 rfl (by rw [hwl]; exact info_write) ?_)
            | (refine wpList_store_new wr rfl 65 _ _ rfl (wcA x) _ rfl rfl rfl 33 info_write hws.out rfl (wcA_one _) ?_))
          go_roundw
          case rel => exact ⟨k + 1, by omega, by go_num, by rw [hrd.out, if_neg hxi]; exact hg2, e2⟩
          case measure => simp [intOf]; omega
      · obtain rfl : k = d.st.length := by omega
        have hl := Lib.hid (hrl.out _ (Nat.le_refl _))
        go_wp2
        go_ret
        exact Ret.mk ⟨by rw [hr.out]; exact Bytes.blk hg hl.out, ek, .inr ⟨g5, 32, 32, rfl, by have := hg5h.out; omega, (Array.getElem?_eq_some_iff.1 hg).1⟩⟩
theorem read_any {w : World} {F : Nat → Prop} {p : Nat} {d : D} (h : Disk w F p d) (i : Int) :
    Calls Try.prog 14 #[.pointer (some ⟨p, 0, none⟩), .int .i64 i] w (Ret fun v w' => Bytes w' v (rdB i d) ∧ Ext w w') :=
  (read_own h i).mono fun _ _ ⟨v, h1, h2, h3, _⟩ => ⟨v, h1, h2, h3⟩
end Go.Proofs.Ytehgdoceaeammaa
