/- A range over a map of texts; Names. -/
import Derived.Test.YtnhgkklbjhjggaaCrS
import Derived.Maps.RangeRun
import Derived.Sort.OwnSorted
import Derived.Sort.KeysCollected
namespace Go.Proofs.Ytnhgkklbjhjggaa
open Go.RowKit Cr

def kname (e : MapEntry) : List UInt8 := match e.key with
  | .string s => s.data.toList
  | _ => []
theorem ents_list (ps : List (List UInt8 × Value)) : (ents ps).toList = ps.zipIdx.map ent := by unfold ents; simp
theorem ents_key {ps : List (List UInt8 × Value)} {e : MapEntry} (h : e ∈ (ents ps).toList) : e.key = .string (str (kname e)) ∧ kname e ∈ ps.map (·.1) := by
  rw [ents_list] at h
  obtain ⟨q, hq, rfl⟩ := List.mem_map.1 h
  refine ⟨rfl, List.mem_map.2 ⟨q.1, ?_, rfl⟩⟩
  have := List.mem_zipIdx' (x := q.1) (i := q.2) hq
  rw [this.2]; exact List.getElem_mem _
theorem zip_names : ∀ (ps : List (List UInt8 × Value)) (n : Nat), (ps.zipIdx n).map (fun p => kname (ent p)) = ps.map (·.1)
  | [], _ => rfl
  | p :: r, n => by rw [List.zipIdx_cons, List.map_cons, List.map_cons, zip_names r]; rfl
theorem zip_born : ∀ (ps : List (List UInt8 × Value)) (n : Nat), (ps.zipIdx n).map (fun p => (ent p).born) = List.range' n ps.length
  | [], _ => rfl
  | p :: r, n => by rw [List.zipIdx_cons, List.map_cons, zip_born r, List.length_cons, List.range'_succ]; rfl
theorem ents_names (ps : List (List UInt8 × Value)) : (ents ps).toList.map kname = ps.map (·.1) := by rw [ents_list, List.map_map]; exact zip_names ps 0
theorem ents_born (ps : List (List UInt8 × Value)) : (ents ps).toList.map (·.born) = List.range' 0 ps.length := by rw [ents_list, List.map_map]; exact zip_born ps 0
theorem born_nodup (ps : List (List UInt8 × Value)) : ((ents ps).toList.map (·.born)).Nodup := by rw [ents_born]; exact List.nodup_range'
theorem born_lt {ps : List (List UInt8 × Value)} {e : MapEntry} (h : e ∈ (ents ps).toList) : e.born < ps.length := by
  have : e.born ∈ (ents ps).toList.map (·.born) := List.mem_map.2 ⟨e, h, rfl⟩
  rw [ents_born, List.mem_range'] at this
  omega
theorem filt_step {p : MapEntry → Bool} {e : MapEntry} : ∀ (l : List MapEntry), (l.map (·.born)).Nodup → e ∈ l → p e = true → (l.filter p).Perm (e :: l.filter fun x => p x && x.born != e.born)
  | [], _, h, _ => by simp at h
  | x :: r, hn, h, hp => by
    rw [List.map_cons, List.nodup_cons] at hn
    by_cases hx : x = e
    · subst hx
      have : (r.filter fun y => p y && y.born != x.born) = r.filter p := List.filter_congr fun y hy => by
        have : y.born ≠ x.born := fun e => hn.1 (e ▸ List.mem_map.2 ⟨y, hy, rfl⟩)
        simp [this]
      rw [List.filter_cons, if_pos hp, List.filter_cons, if_neg (by simp), this]
    · have hr : e ∈ r := (List.mem_cons.1 h).resolve_left fun h => hx h.symm
      have ih := filt_step r hn.2 hr hp
      have hb : (x.born != e.born) = true := by
        have : x.born ≠ e.born := fun h2 => hn.1 (h2 ▸ List.mem_map.2 ⟨e, hr, rfl⟩)
        simpa using this
      rw [List.filter_cons, List.filter_cons, hb, Bool.and_true]
      by_cases hpx : p x = true
      · rw [if_pos hpx, if_pos hpx]
        exact (ih.cons x).trans (List.Perm.swap e x _)
      · rw [if_neg hpx, if_neg hpx]; exact ih
/-- block r is an iterator over the map in block b; got are the keys that have come -/
def It (w : World) (b r : Nat) (ps : List (List UInt8 × Value)) (got : List (List UInt8)) : Prop :=
  MapS w b ps ∧ ∃ seen, w.heap[r]? = some (.mapIter (some b) ps.length seen ps.length) ∧ (got ++ (leftOf (ents ps) seen).toList.map kname).Perm (ps.map (·.1))
theorem It.len {w : World} {b r : Nat} {ps : List (List UInt8 × Value)} {got : List (List UInt8)} (h : It w b r ps got) : got.length ≤ ps.length := by
  obtain ⟨-, seen, -, h⟩ := h
  have := h.length_eq
  rw [List.length_append, List.length_map, List.length_map] at this
  omega
theorem It.start {w : World} {b : Nat} {ps : List (List UInt8 × Value)} (h : MapS w b ps) : It (w.alloc (.mapIter (some b) ps.length #[] ps.length)) b w.heap.size ps [] :=
  ⟨h.ext ((Ext.refl w).alloc _), #[], by rw [heap_alloc_new], by
    rw [List.nil_append, ← ents_names]
    have : leftOf (ents ps) #[] = ents ps := by unfold leftOf; simp
    rw [this]⟩
theorem It.kept {w w' : World} {b r : Nat} {ps : List (List UInt8 × Value)} {got : List (List UInt8)} (h : It w b r ps got) (hb : w'.heap[b]? = w.heap[b]?) (hr : w'.heap[r]? = w.heap[r]?) : It w' b r ps got := by
  obtain ⟨h1, seen, h2, h3⟩ := h
  exact ⟨by unfold MapS; rw [hb]; exact h1, seen, by rw [hr]; exact h2, h3⟩
theorem It.lt {w : World} {b r : Nat} {ps : List (List UInt8 × Value)} {got : List (List UInt8)} (h : It w b r ps got) : b < w.heap.size ∧ r < w.heap.size := by
  obtain ⟨h1, seen, h2, -⟩ := h
  exact ⟨(Array.getElem?_eq_some_iff.1 h1).1, (Array.getElem?_eq_some_iff.1 h2).1⟩
theorem It.ext {w w' : World} {b r : Nat} {ps : List (List UInt8 × Value)} {got : List (List UInt8)} (h : It w b r ps got) (e : Ext w w') : It w' b r ps got := h.kept (e.block _ h.lt.1) (e.block _ h.lt.2)
/-- a slice that was appended to is no map and no iterator -/
theorem It.grown {w w' : World} {b r : Nat} {ps : List (List UInt8 × Value)} {got : List (List UInt8)} {E : TypeId} {base : Nat} {v : Value} {l : List (List UInt8)} (h : It w b r ps got) (ho : Own sv E w base v l) (g : w.grownBy w' v.ownBlock) : It w' b r ps got := by
  have hk : ∀ k, v.ownBlock = some k → ∃ cur, w.heap[k]? = some (.cells cur E (0, 0)) := fun k hk => by
    obtain ⟨-, ⟨rfl, -⟩ | ⟨g, cap, cur, rfl, -, hh, -⟩⟩ := ho
    · simp [Value.ownBlock] at hk
    · simp [Value.ownBlock] at hk; subst hk; exact ⟨cur, hh⟩
  obtain ⟨h1, seen, h2, -⟩ := id h
  refine h.kept (g.block _ h.lt.1 fun e => ?_) (g.block _ h.lt.2 fun e => ?_)
  · obtain ⟨cur, hc⟩ := hk _ e.symm
    rw [h1] at hc; cases hc
  · obtain ⟨cur, hc⟩ := hk _ e.symm
    rw [h2] at hc; cases hc
theorem It.next {P : Program} {w : World} {b r : Nat} {ps : List (List UInt8 × Value)} {got : List (List UInt8)} (h : It w b r ps got) (ty : TypeId) :
    (got.Perm (ps.map (·.1)) ∧ (Instr.next (.pointer (some ⟨r, 0, none⟩)) false ty).run P w = .ok (.tuple #[.bool false]) w) ∨
    ∃ x v w', It w' b r ps (got ++ [x]) ∧ Chg (fun k => k = r) w w' ∧ (Instr.next (.pointer (some ⟨r, 0, none⟩)) false ty).run P w = .ok (.tuple #[.bool true, .string (str x), v]) w' ∧
      (Instr.entry (.pointer (some ⟨r, 0, none⟩))).run P w' = .ok (.tuple #[.string (str x), v]) w' := by
  obtain ⟨hm, seen, hr, hp⟩ := h
  have hne : r ≠ b := by rintro rfl; rw [hm] at hr; cases hr
  rcases run_next_at (P := P) w ty r b ps.length ps.length seen (ents ps) ps.length hr hm (fun x hx => born_lt hx) (Nat.le_refl _) with ⟨h0, hrun⟩ | ⟨e, he, w1, hal, hrun⟩
  · refine .inl ⟨?_, hrun⟩
    rw [Array.eq_empty_of_size_eq_zero h0] at hp
    simpa using hp
  · obtain ⟨hem, hes⟩ := mem_left he
    obtain ⟨hk, -⟩ := ents_key hem
    have hr1 : w1.heap[r]? = some (.mapIter (some b) ps.length seen ps.length) := by rcases hal with rfl | rfl <;> exact hr
    have hb1 : w1.heap[b]? = some (.map (ents ps) ps.length) := by rcases hal with rfl | rfl <;> exact hm
    have hset := MapKept.heap_set (o' := .mapIter (some b) ps.length (seen.push e.born) ps.length) hr1
    have hb2 : (ChangeMaps.setBlock w1 r (.mapIter (some b) ps.length (seen.push e.born) ps.length)).heap[b]? = some (.map (ents ps) ps.length) := (hset.2 b fun q => hne q.symm).trans hb1
    rw [hk] at hrun
    have hen := run_entry_at (P := P) _ r b ps.length seen (ents ps) ps.length e hset.1 hb2 hem (born_nodup ps)
    rw [hk] at hen
    refine .inr ⟨kname e, e.val, _, ⟨hb2, seen.push e.born, hset.1, ?_⟩, ?_, hrun, hen⟩
    · have h1 := filt_step (p := fun x => !seen.contains x.born) (ents ps).toList (born_nodup ps) hem (by rw [hes]; rfl)
      have h2 : (leftOf (ents ps) (seen.push e.born)).toList = (ents ps).toList.filter fun x => (!seen.contains x.born) && x.born != e.born := by
        unfold leftOf
        rw [Array.toList_filter]
        refine List.filter_congr fun x _ => ?_
        rw [contains_push, Bool.not_or]; rfl
      have h3 : (leftOf (ents ps) seen).toList = (ents ps).toList.filter fun x => !seen.contains x.born := by unfold leftOf; rw [Array.toList_filter]
      rw [h2]
      rw [h3] at hp
      have h4 := h1.map kname
      rw [List.map_cons] at h4
      rw [List.append_assoc, List.singleton_append]
      exact (h4.symm.append_left got).trans hp
    · rcases hal with rfl | rfl <;> exact ⟨rfl, rfl, rfl, by simp [ChangeMaps.setBlock], fun i _ hi => hset.2 i hi⟩
theorem wpList_nextS {P : Program} {ops : Array Oper} {rest : List Oper} {o : Oper} {a : Act} {w : World} {Q : Exit → Act → World → Prop} (hg : o.guard = none) (it : Operand) (hop : o.op = Op.next it false) (b r : Nat) (ps : List (List UInt8 × Value)) (got : List (List UInt8))
    (hit : a.eval it = .pointer (some ⟨r, 0, none⟩)) (h : It w b r ps got)
    (hDone : got.Perm (ps.map (·.1)) → wpList P ops Q rest (a.put o.dst (.tuple #[.bool false])) w)
    (hMore : ∀ x v w', It w' b r ps (got ++ [x]) → Chg (fun k => k = r) w w' → (Instr.entry (.pointer (some ⟨r, 0, none⟩))).run P w' = .ok (.tuple #[.string (str x), v]) w' → wpList P ops Q rest (a.put o.dst (.tuple #[.bool true, .string (str x), v])) w') :
    wpList P ops Q (o :: rest) a w := by
  refine wpList_plain hg fun K' hK' => ?_
  unfold Oper.wp
  rcases h.next (P := P) o.type with ⟨h0, hrun⟩ | ⟨x, v, w', h1, h2, hrun, hen⟩
  · simp [execOp, hop, hit, hrun, Result.andThen]
    exact hK' _ _ (hDone h0)
  · simp [execOp, hop, hit, hrun, Result.andThen]
    exact hK' _ _ (hMore x v w' h1 h2 hen)
theorem It.own {w w' : World} {b r : Nat} {ps : List (List UInt8 × Value)} {got : List (List UInt8)} {E : TypeId} {base : Nat} {v : Value} {l : List (List UInt8)} (h : It w b r ps got) (ho : Own sv E w base v l) (c : Chg (fun k => k = r) w w') : Own sv E w' base v l := by
  obtain ⟨h0, ho⟩ := ho
  refine ⟨h0, ?_⟩
  rcases ho with ho | ⟨g, cap, cur, rfl, h1, hh, h2⟩
  · exact .inl ho
  · refine .inr ⟨g, cap, cur, rfl, h1, ?_, h2⟩
    rw [c.block g (Array.getElem?_eq_some_iff.1 hh).1 fun e => ?_]
    · exact hh
    · obtain ⟨-, seen, h3, -⟩ := h
      rw [e, h3] at hh; cases hh
def slen : Value → Nat
  | .slice _ n _ => n
  | _ => 0
theorem Own.shapeN {E : TypeId} {w : World} {base : Nat} {v : Value} {l : List (List UInt8)} (h : Own sv E w base v l) : ∃ a cap, v = .slice a l.length cap := let ⟨a, cap, h, _⟩ := h.shape; ⟨a, cap, h⟩
/-- behind the sort -/
theorem Own.sorted {E : TypeId} {w : World} {base g cap n : Nat} {os : Array Obj} {l : List (List UInt8)} (h : Own sv E w base (.slice (some ⟨g, 0, none⟩) l.length cap) l) (ts : List (List UInt8)) (hl : ts.length = l.length) :
    Own sv E (Sort.grow (Sort.putRow encStr (Sort.ahead w n) g 0 ts.toArray) os) base (.slice (some ⟨g, 0, none⟩) l.length cap) ts := by
  obtain ⟨-, ⟨h, -⟩ | ⟨g', cap', cur, hv, h1, hh, h2, h3, h4, h5⟩⟩ := h
  · cases h
  · cases hv
    have := ownsRow_sorted (n := n) (os := os) hl h1 hh h2 h3 h4
    unfold Own
    rw [hl]; exact this
theorem info_str2 : (Try.prog.info? 9).map (fun i => (i.zero, i.size, i.bytes)) = some (some (.string ⟨#[]⟩), 1, 16) := by kernel_rfl
set_option maxRecDepth 20000 in
set_option maxHeartbeats 1000000 in
theorem names_any (t : Value) (l : List Us) (w : World) (h : Tb w t l) (hl : l.length ≤ 1000) :
    Calls Try.prog 20 #[t] w (Ret fun u w' => Own sv 9 w' w.heap.size u ((names l).mergeSort leB) ∧ Ext w w') := by
  obtain ⟨G, B, ps, rfl, hc, hm, ht, -⟩ := h
  have hpn : ps.map (·.1) = names l := ht.1
  have hpl : ps.length ≤ 1000 := by rw [ht.len]; exact hl
  have hrange := run_range_map (P := Try.prog) w 48 9 40 B (ents ps) ps.length Try.underlying48 hm
  have e0 := Ext.refl w
  clear ht
  go_enter Try.func20, Try.ntmps20
  go_wp2
  have hit0 := Lib.hid (It.start hm)
  have e1 := e0.alloc (.mapIter (some B) ps.length #[] ps.length)
  have hrl := Lib.hid (show w.heap.size < (w.alloc (.mapIter (some B) ps.length #[] ps.length)).heap.size from by rw [alloc_size]; omega)
  obtain ⟨r, hr⟩ : ∃ r, r = w.heap.size := ⟨_, rfl⟩
  rw [← hr] at hit0 hrl ⊢
  have hrh := Lib.hid hr
  generalize w.alloc (.mapIter (some B) ps.length #[] ps.length) = W1 at *
  clear hrange hm hc e0 hr
  go_loopw [3] (fun out wr => ∃ got, RowKit.Hid (Own sv 9 wr w.heap.size out got) ∧ It wr B r ps got ∧ Ext w wr) (fun out _ => ps.length - slen out)
  case atStart => exact ⟨[], Lib.hid (Own.nil _ _ _), hit0.out, e1⟩
  case round =>
    obtain ⟨got, ho, hit, ek⟩ := hrel
    obtain ⟨a9, cap9, rfl⟩ := ho.out.shapeN
    have hgl := hit.len
    go_wp2_with (at_next; refine wpList_nextS rfl _ rfl B r ps got rfl hit ?_ ?_)
    · intro hp
      have hgn : got.mergeSort leB = (names l).mergeSort leB := mergeSort_of_perm hp
      rcases id ho.out with ⟨-, ⟨hv, h0⟩ | ⟨g, cap, cur, hv, hbase, hb, h1, h2, h3, h4⟩⟩
      · simp only [Value.slice.injEq] at hv
        obtain ⟨rfl, -, rfl⟩ := hv
        have hs := sort_none none 0 wr
        have hg0 : got = [] := List.eq_nil_of_length_eq_zero h0
        rw [h0]
        go_wp2_with (go_at_call 25; refine hs.mono ?_; rintro e w' ⟨rfl, rfl⟩)
        go_ret
        refine Ret.mk ⟨?_, ek⟩
        rw [← hgn, hg0, List.mergeSort_nil]
        exact Own.nil _ _ _
      · cases hv
        have hs := sort_strings g 0 cap9 got wr (holds_of_block hb (by rw [Nat.mul_one] at h4; exact h4)) (Array.getElem?_eq_some_iff.1 hb).1 (by omega)
        have hoh := ho.out
        go_wp2_with (go_at_call 25; refine hs.mono ?_; rintro e w' ⟨rfl, nn, os, rfl⟩)
        go_ret
        refine Ret.mk ⟨?_, ek.grown (grownBy_sorted _) fun k hk => by cases hk; exact hbase⟩
        have := Own.sorted (n := nn) (os := os) hoh (got.mergeSort leB) (by simp)
        rw [← hgn]
        exact this
    · intro x v w2 hit2 c2 hen
      have ho2 := Lib.hid (hit.own ho.out c2)
      have e2 := ek.chg c2 fun i hi => by rw [hi, hrh.out]; exact Nat.le_refl _
      have hs2 := Lib.hid e2.size
      have hgl2 := hit2.len
      rw [List.length_append, List.length_singleton] at hgl2
      clear hit ho
      go_wp2_with (refine wpList_appendS (enc := sv) Try.underlying23 info_str2 rfl (fun _ => rfl) rfl _ _ rfl w.heap.size _ got rfl (ho2.out.alloc _) _ [x] rfl (Sl.lit rfl rfl rfl (by decide) (by decide)) (by simp only [List.length_singleton]; omega) (by simp only [List.length_singleton]; omega) (Nat.le_trans hs2.out ((Ext.refl w2).alloc _).size) ?_; intro v3 w3 o3 g3; obtain ⟨a3, cap3, rfl⟩ := o3.shapeN)
      rw [List.length_append, List.length_singleton] at o3
      have hit3 := (hit2.ext ((Ext.refl w2).alloc _)).grown (ho2.out.alloc _) g3
      go_roundw
      case rel => exact ⟨got ++ [x], Lib.hid o3, hit3, (e2.alloc _).grown g3 (fun k hk => ho2.out.lt k hk)⟩
      case measure => simp only [slen, List.length_append, List.length_singleton]; omega
end Go.Proofs.Ytnhgkklbjhjggaa
