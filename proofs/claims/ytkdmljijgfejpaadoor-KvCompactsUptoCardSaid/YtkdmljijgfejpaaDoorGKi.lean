/- A map of texts to texts, as it lies in memory: read, written, struck, ranged over. -/
import Derived.Test.YtkdmljijgfejpaaDoorGKe
import Derived.MapKept
import Derived.Maps.RangeWalk
namespace Go.Proofs.YtkdmljijgfejpaaDoor
set_option linter.unusedVariables false
set_option linter.unusedSimpArgs false
open Go.RowKit Kv

def keyB : Value → List UInt8
  | .string s => s.data.toList
  | _ => []
def prOf (e : MapEntry) : Pr := ⟨keyB e.key, keyB e.val⟩
def entP (e : MapEntry) : Prop := e.key = .string (str (prOf e).n) ∧ e.val = .string (str (prOf e).v)
/-- the entries of a map that holds the pairs L -/
structure Good (es : Array MapEntry) (clock : Nat) (L : List Pr) : Prop where
  st : MapKept.Stamped es clock
  en : ∀ e ∈ es.toList, entP e
  mem : ∀ p, p ∈ es.toList.map prOf ↔ p ∈ L
  srt : Srt L
theorem entP_mk (k v : List UInt8) (b : Nat) : prOf { key := .string (str k), val := .string (str v), born := b } = ⟨k, v⟩ := rfl
theorem entP.inj {a b : MapEntry} (ha : entP a) (hb : entP b) (h : (prOf a).n = (prOf b).n) : a.key = b.key := by rw [ha.1, hb.1, h]
theorem Good.nodup {es : Array MapEntry} {clock : Nat} {L : List Pr} (h : Good es clock L) : (es.toList.map prOf).Nodup := by
  have := h.st.2.2
  unfold List.Nodup at this ⊢
  rw [List.pairwise_map] at this ⊢
  exact this.imp_of_mem fun ha hb hne e => hne ((h.en _ ha).inj (h.en _ hb) (congrArg Pr.n e))
theorem Good.perm {es : Array MapEntry} {clock : Nat} {L : List Pr} (h : Good es clock L) : (es.toList.map prOf).Perm L := perm_of_mem h.nodup h.srt.nodup h.mem
theorem Good.size {es : Array MapEntry} {clock : Nat} {L : List Pr} (h : Good es clock L) : es.size = L.length := by
  have := h.perm.length_eq
  simpa using this
theorem Good.isKey {es : Array MapEntry} {clock : Nat} {L : List Pr} (h : Good es clock L) : ∀ x ∈ es.toList, MapKept.IsKey .string x.key := fun x hx => by rw [(h.en x hx).1]; trivial
theorem Good.key_ne {es : Array MapEntry} {clock : Nat} {L : List Pr} (h : Good es clock L) {i j : Nat} {x y : MapEntry} (hx : es.toList[i]? = some x) (hy : es.toList[j]? = some y) (hij : i ≠ j) : x.key ≠ y.key := fun e => hij (by
  have hi : i < (es.toList.map (·.key)).length := by rw [List.length_map]; exact (List.getElem?_eq_some_iff.1 hx).1
  refine (List.getElem?_inj hi h.st.2.2).1 ?_
  rw [List.getElem?_map, List.getElem?_map, hx, hy]
  exact congrArg some e)
theorem alloc_sz (w : World) (o : Obj) : (w.alloc o).heap.size = w.heap.size + 1 := World.size_alloc ..
def KMap (w : World) (b : Nat) (L : List Pr) : Prop := ∃ es clock, w.heap[b]? = some (.map es clock) ∧ Good es clock L
/-- a map that may be none -/
def MapV (w : World) (m : Option Nat) (L : List Pr) : Prop := match m with
  | none => L = []
  | some b => KMap w b L
theorem KMap.lt {w : World} {b : Nat} {L : List Pr} (h : KMap w b L) : b < w.heap.size := let ⟨_, _, h, _⟩ := h; (Array.getElem?_eq_some_iff.1 h).1
theorem KMap.srt {w : World} {b : Nat} {L : List Pr} (h : KMap w b L) : Srt L := let ⟨_, _, _, g⟩ := h; g.srt
theorem KMap.kept {w w' : World} {b : Nat} {L : List Pr} (h : KMap w b L) (hb : w'.heap[b]? = w.heap[b]?) : KMap w' b L := let ⟨es, c, h1, h2⟩ := h; ⟨es, c, by rw [hb]; exact h1, h2⟩
theorem KMap.ext {w w' : World} {b : Nat} {L : List Pr} (h : KMap w b L) (e : Ext w w') : KMap w' b L := h.kept (e.block _ h.lt)
theorem KMap.chg {w w' : World} {b : Nat} {L : List Pr} {F : Nat → Prop} (h : KMap w b L) (c : Chg F w w') (hF : ¬ F b) : KMap w' b L := h.kept (c.block _ h.lt hF)
theorem MapV.srt {w : World} {m : Option Nat} {L : List Pr} (h : MapV w m L) : Srt L := by
  cases m with
  | none => rw [show L = [] from h]; exact srt_nil
  | some b => exact KMap.srt h
theorem MapV.ext {w w' : World} {m : Option Nat} {L : List Pr} (h : MapV w m L) (e : Ext w w') : MapV w' m L := by
  cases m with
  | none => exact h
  | some b => exact KMap.ext h e
theorem MapV.chg {w w' : World} {m : Option Nat} {L : List Pr} {F : Nat → Prop} (h : MapV w m L) (c : Chg F w w') (hF : ∀ b, m = some b → ¬ F b) : MapV w' m L := by
  cases m with
  | none => exact h
  | some b => exact KMap.chg h c (hF b rfl)
theorem KMap.made (w : World) : KMap (w.alloc (.map #[] 0)) w.heap.size [] :=
  ⟨#[], 0, (MapKept.heap_alloc w _).1, MapKept.stamped_empty 0, fun e h => by simp at h, fun p => by simp, srt_nil⟩
section
variable {P : Program} {w : World} {b : Nat} {L : List Pr} {T kt et : TypeId}
theorem Good.find {es : Array MapEntry} {clock : Nat} (h : Good es clock L) (k : List UInt8) :
    (Instr.findNow .string (.string (str k)) es.toList 0 = some none ∧ ∀ x ∈ es.toList, x.key ≠ .string (str k)) ∨
    ∃ j e, Instr.findNow .string (.string (str k)) es.toList 0 = some (some (j, e.val)) ∧ es.toList[j]? = some e ∧ e.key = .string (str k) := by
  rcases MapKept.findNow_spec (d := .string) (k := .string (str k)) trivial es.toList 0 h.isKey with h1 | ⟨j, e, h1, h2, h3⟩
  · exact .inl h1
  · exact .inr ⟨j, e, by rw [h1, Nat.zero_add], h2, h3⟩
theorem Good.none_get {es : Array MapEntry} {clock : Nat} (h : Good es clock L) {k : List UInt8} (hn : ∀ x ∈ es.toList, x.key ≠ .string (str k)) : ∀ p ∈ L, p.n ≠ k := fun p hp e => by
  obtain ⟨x, hx, rfl⟩ := List.mem_map.1 ((h.mem p).2 hp)
  exact hn x hx (by rw [(h.en x hx).1, e])
theorem entP.name {e : MapEntry} {k : List UInt8} (h : entP e) (hk : e.key = .string (str k)) : (prOf e).n = k := by
  have := h.1.symm.trans hk
  injection this with h1
  exact str_inj h1
theorem get_none {l : List Pr} {k : List UInt8} (h : ∀ p ∈ l, p.n ≠ k) : get l k = none := by
  unfold Kv.get
  rw [List.find?_eq_none.2 fun p hp => by simpa using h p hp]
  rfl
theorem run_lookupK (hT : P.underlying T = some (.map kt et)) (hk : P.underlying kt = some .string) (hz : ∀ w, (zeroValue et).run P w = .ok (.string (str [])) w) {m : Option Nat} (h : MapV w m L) (k : List UInt8) :
    (Instr.lookup T (.map m) (.string (str k)) true).run P w = .ok (.tuple #[.string (str ((get L k).getD [])), .bool (get L k).isSome]) w := by
  have hc : ∀ e, (Instr.checkKey e 10000 kt (.string (str k))).run P w = .ok () w := fun e => MapKept.run_checkKey (k := .string (str k)) hk (by simp [MapKept.IsKey]) e 9999
  cases m with
  | none =>
    obtain rfl : L = [] := h
    have hf : (Instr.findKey kt (.string (str k)) (#[] : Array MapEntry).toList).run P w = .ok none w := MapKept.run_findKey hk rfl
    unfold Instr.lookup
    simp only [Sem.run_bind, run_underlying hT, Result.andThen_ok, Sem.run_pure, hc, hf, hz]
    rfl
  | some b =>
    obtain ⟨es, clock, hb, g⟩ := h
    rcases g.find k with ⟨h1, h2⟩ | ⟨j, e, h1, h2, h3⟩
    · have hf := MapKept.run_findKey (P := P) (w := w) hk h1
      rw [get_none (g.none_get h2)]
      unfold Instr.lookup
      simp only [Sem.run_bind, run_underlying hT, Result.andThen_ok, MapKept.run_getObj_map hb, Sem.run_pure, hc, hf, hz]
      rfl
    · have hf := MapKept.run_findKey (P := P) (w := w) hk h1
      have hem := List.mem_of_getElem? h2
      have hen := g.en e hem
      have hg : get L k = some (prOf e).v := (get_some g.srt).2 ((g.mem _).1 (List.mem_map.2 ⟨e, hem, by rw [← hen.name h3]⟩))
      rw [hg]
      unfold Instr.lookup
      simp only [Sem.run_bind, run_underlying hT, Result.andThen_ok, MapKept.run_getObj_map hb, Sem.run_pure, hc, hf]
      rw [hen.2]
      rfl
theorem run_updateK (hT : P.underlying T = some (.map kt et)) (hk : P.underlying kt = some .string) (h : KMap w b L) (k v : List UInt8) :
    ∃ w', (Instr.mapUpdate T (.map (some b)) (.string (str k)) (.string (str v))).run P w = .ok () w' ∧ KMap w' b (put ⟨k, v, false⟩ L) ∧ Chg (fun j => j = b) w w' := by
  have hc : ∀ e, (Instr.checkKey e 10000 kt (.string (str k))).run P w = .ok () w := fun e => MapKept.run_checkKey (k := .string (str k)) hk (by simp [MapKept.IsKey]) e 9999
  obtain ⟨es, clock, hb, g⟩ := h
  rcases g.find k with ⟨h1, h2⟩ | ⟨j, e, h1, h2, h3⟩
  · obtain ⟨s1, s2⟩ := MapKept.heap_set (o' := .map (es.push { key := .string (str k), val := .string (str v), born := clock }) (clock + 1)) hb
    refine ⟨{ w with heap := w.heap.setIfInBounds b (.map (es.push { key := .string (str k), val := .string (str v), born := clock }) (clock + 1)) }, ?_, ⟨_, _, s1, MapKept.stamped_push g.st h2, fun x hx => ?_, fun p => ?_, put_srt g.srt⟩, rfl, rfl, rfl, by simp, fun i _ hi => s2 i hi⟩
    · simp [Instr.mapUpdate, run_underlying hT, MapKept.run_getObj_map hb, hc, MapKept.run_findKey hk h1, MapKept.run_setObj_map _ hb, Result.andThen]
    · rw [Array.toList_push, List.mem_append, List.mem_singleton] at hx
      rcases hx with hx | rfl
      · exact g.en x hx
      · exact ⟨rfl, rfl⟩
    · rw [mem_put g.srt, Array.toList_push, List.map_append, List.mem_append, List.map_cons, List.map_nil, List.mem_singleton, entP_mk, g.mem]
      constructor
      · rintro (hp | rfl)
        · exact .inl ⟨hp, g.none_get h2 p hp⟩
        · exact .inr ⟨rfl, rfl⟩
      · rintro (⟨hp, -⟩ | ⟨-, rfl⟩)
        · exact .inl hp
        · exact .inr rfl
  · have hj : es[j]? = some e := by simpa using h2
    have hem := List.mem_of_getElem? h2
    have hen := g.en e hem
    have ht : (es.modify j fun e => { e with key := .string (str k), val := .string (str v) }).toList = es.toList.set j { e with key := .string (str k), val := .string (str v) } := by
      refine List.ext_getElem? fun i => ?_
      rw [Array.getElem?_toList, Array.getElem?_modify, List.getElem?_set]
      by_cases hij : j = i
      · subst hij
        have hl : j < es.toList.length := (List.getElem?_eq_some_iff.1 h2).1
        rw [if_pos rfl, if_pos rfl, hj, if_pos hl]; rfl
      · rw [if_neg hij, if_neg hij, Array.getElem?_toList]
    have hkey : ∀ e', es[j]? = some e' → ({ e' with key := .string (str k), val := .string (str v) } : MapEntry).key = e'.key := fun e' he' => by rw [hj] at he'; cases he'; exact h3.symm
    obtain ⟨s1, s2⟩ := MapKept.heap_set (o' := .map (es.modify j fun e => { e with key := .string (str k), val := .string (str v) }) clock) hb
    have hmem : ∀ x, x ∈ (es.modify j fun e => { e with key := .string (str k), val := .string (str v) }).toList ↔ (x ∈ es.toList ∧ x.key ≠ .string (str k)) ∨ x = { e with key := .string (str k), val := .string (str v) } := fun x => by
      rw [ht]
      constructor
      · intro hx
        obtain ⟨i, hi⟩ := List.getElem?_of_mem hx
        rw [List.getElem?_set] at hi
        split at hi
        · split at hi
          · exact .inr (Option.some.inj hi).symm
          · cases hi
        · rename_i hne
          exact .inl ⟨List.mem_of_getElem? hi, by rw [← h3]; exact g.key_ne hi h2 (Ne.symm hne)⟩
      · rintro (⟨hx, hne⟩ | rfl)
        · obtain ⟨i, hi⟩ := List.getElem?_of_mem hx
          have hij : j ≠ i := fun e1 => hne (by rw [← e1, h2] at hi; cases hi; exact h3)
          exact List.mem_of_getElem? (i := i) (by rw [List.getElem?_set, if_neg hij]; exact hi)
        · exact List.mem_of_getElem? (i := j) (by rw [List.getElem?_set, if_pos rfl, if_pos (List.getElem?_eq_some_iff.1 h2).1])
    refine ⟨{ w with heap := w.heap.setIfInBounds b (.map (es.modify j fun e => { e with key := .string (str k), val := .string (str v) }) clock) }, ?_, ⟨_, _, s1, MapKept.stamped_modify g.st _ _ (fun _ _ => rfl) (fun e' _ he' => hkey e' he'), fun x hx => ?_, fun p => ?_, put_srt g.srt⟩, rfl, rfl, rfl, by simp, fun i _ hi => s2 i hi⟩
    · simp [Instr.mapUpdate, run_underlying hT, MapKept.run_getObj_map hb, hc, MapKept.run_findKey hk h1, hj, h3, MapKept.run_keyThatStays (d := .string) (k := .string (str k)) trivial, MapKept.run_setObj_map _ hb, Result.andThen]
    · rcases (hmem x).1 hx with ⟨hx, -⟩ | rfl
      · exact g.en x hx
      · exact ⟨rfl, rfl⟩
    · rw [mem_put g.srt, List.mem_map]
      constructor
      · rintro ⟨x, hx, rfl⟩
        rcases (hmem x).1 hx with ⟨hx, hne⟩ | rfl
        · exact .inl ⟨(g.mem _).1 (List.mem_map.2 ⟨x, hx, rfl⟩), fun e1 => hne (by rw [(g.en x hx).1, e1])⟩
        · exact .inr ⟨rfl, rfl⟩
      · rintro (⟨hp, hne⟩ | ⟨-, rfl⟩)
        · obtain ⟨x, hx, rfl⟩ := List.mem_map.1 ((g.mem p).2 hp)
          exact ⟨x, (hmem x).2 (.inl ⟨hx, fun e1 => hne ((g.en x hx).name e1)⟩), rfl⟩
        · exact ⟨_, (hmem _).2 (.inr rfl), rfl⟩
theorem run_deleteK {ty : TypeId} (hT : P.underlying T = some (.map kt et)) (hk : P.underlying kt = some .string) (h : KMap w b L) (k v : List UInt8) :
    ∃ w', (Builtin.delete_ #[T, kt] ty #[.map (some b), .string (str k)]).run P w = .ok (.tuple #[]) w' ∧ KMap w' b (put ⟨k, v, true⟩ L) ∧ Chg (fun j => j = b) w w' := by
  have hc : ∀ e, (Instr.checkKey e 10000 kt (.string (str k))).run P w = .ok () w := fun e => MapKept.run_checkKey (k := .string (str k)) hk (by simp [MapKept.IsKey]) e 9999
  obtain ⟨es, clock, hb, g⟩ := h
  rcases g.find k with ⟨h1, h2⟩ | ⟨j, e, h1, h2, h3⟩
  · obtain ⟨s1, s2⟩ := MapKept.heap_set (o' := .map es clock) hb
    refine ⟨{ w with heap := w.heap.setIfInBounds b (.map es clock) }, ?_, ⟨_, _, s1, g.st, g.en, fun p => ?_, put_srt g.srt⟩, rfl, rfl, rfl, by simp, fun i _ hi => s2 i hi⟩
    · simp [Builtin.delete_, run_underlying hT, MapKept.run_getObj_map hb, hc, MapKept.run_findKey hk h1, MapKept.run_setObj_map _ hb, Result.andThen]
    · rw [mem_put g.srt, g.mem]
      constructor
      · exact fun hp => .inl ⟨hp, g.none_get h2 p hp⟩
      · rintro (⟨hp, -⟩ | ⟨h, -⟩)
        · exact hp
        · cases h
  · have hjs : j < es.size := by simpa using (List.getElem?_eq_some_iff.1 h2).1
    have hsub : (es.eraseIdxIfInBounds j).toList = es.toList.eraseIdx j := by
      unfold Array.eraseIdxIfInBounds
      rw [dif_pos hjs]
      simp
    have hmem : ∀ x, x ∈ (es.eraseIdxIfInBounds j).toList ↔ x ∈ es.toList ∧ x.key ≠ .string (str k) := fun x => by
      rw [hsub, List.mem_eraseIdx_iff_getElem?]
      constructor
      · rintro ⟨i, hne, hi⟩
        exact ⟨List.mem_of_getElem? hi, by rw [← h3]; exact g.key_ne hi h2 hne⟩
      · rintro ⟨hx, hne⟩
        obtain ⟨i, hi⟩ := List.getElem?_of_mem hx
        refine ⟨i, fun e1 => hne ?_, hi⟩
        rw [e1, h2] at hi
        cases hi
        exact h3
    obtain ⟨s1, s2⟩ := MapKept.heap_set (o' := .map (es.eraseIdxIfInBounds j) clock) hb
    refine ⟨{ w with heap := w.heap.setIfInBounds b (.map (es.eraseIdxIfInBounds j) clock) }, ?_, ⟨_, _, s1, MapKept.stamped_erase g.st j, fun x hx => g.en x ((hmem x).1 hx).1, fun p => ?_, put_srt g.srt⟩, rfl, rfl, rfl, by simp, fun i _ hi => s2 i hi⟩
    · simp [Builtin.delete_, run_underlying hT, MapKept.run_getObj_map hb, hc, MapKept.run_findKey hk h1, MapKept.run_setObj_map _ hb, Result.andThen]
    · rw [mem_put g.srt, List.mem_map]
      constructor
      · rintro ⟨x, hx, rfl⟩
        obtain ⟨hx, hne⟩ := (hmem x).1 hx
        exact .inl ⟨(g.mem _).1 (List.mem_map.2 ⟨x, hx, rfl⟩), fun e1 => hne (by rw [(g.en x hx).1, e1])⟩
      · rintro (⟨hp, hne⟩ | ⟨h, -⟩)
        · obtain ⟨x, hx, rfl⟩ := List.mem_map.1 ((g.mem p).2 hp)
          exact ⟨x, (hmem x).2 ⟨hx, fun e1 => hne ((g.en x hx).name e1)⟩, rfl⟩
        · cases h
end
section
variable {P : Program} {ops : Array Oper} {rest : List Oper} {o : Oper} {a : Act} {w : World} {Q : Exit → Act → World → Prop} {L : List Pr} {kt et : TypeId}
theorem wpList_lookupK (hg : o.guard = none) (m x : Operand) (T : TypeId) (hop : o.op = Op.lookup T m x true) (hT : P.underlying T = some (.map kt et)) (hk : P.underlying kt = some .string) (hz : ∀ w, (zeroValue et).run P w = .ok (.string (str [])) w)
    (b : Option Nat) (k : List UInt8) (hm : a.eval m = .map b) (hx : a.eval x = .string (str k)) (h : MapV w b L)
    (hK : wpList P ops Q rest (a.put o.dst (.tuple #[.string (str ((get L k).getD [])), .bool (get L k).isSome])) w) : wpList P ops Q (o :: rest) a w := by
  refine wpList_plain hg fun K' hK' => ?_
  have hrun := run_lookupK hT hk hz h k
  unfold Oper.wp
  simp [execOp, hop, hm, hx, hrun, Result.andThen]
  exact hK' _ _ hK
theorem wpList_updateK (hg : o.guard = none) (m x v : Operand) (T : TypeId) (hop : o.op = Op.mapUpdate T m x v) (hT : P.underlying T = some (.map kt et)) (hk : P.underlying kt = some .string)
    (b : Nat) (k u : List UInt8) (hm : a.eval m = .map (some b)) (hx : a.eval x = .string (str k)) (hv : a.eval v = .string (str u)) (h : KMap w b L)
    (hK : ∀ w', KMap w' b (put ⟨k, u, false⟩ L) → Chg (fun j => j = b) w w' → wpList P ops Q rest (a.put o.dst undef) w') : wpList P ops Q (o :: rest) a w := by
  refine wpList_plain hg fun K' hK' => ?_
  obtain ⟨w', hrun, r1, r2⟩ := run_updateK hT hk h k u
  unfold Oper.wp
  simp [execOp, hop, hm, hx, hv, hrun, Result.andThen]
  exact hK' _ _ (hK w' r1 r2)
theorem wpList_deleteK (hg : o.guard = none) (m x : Operand) (T : TypeId) (hop : o.op = Op.call { callee := Callee.builtin Builtin.delete, args := #[m, x], argTypes := #[T, kt] }) (hT : P.underlying T = some (.map kt et)) (hk : P.underlying kt = some .string)
    (b : Nat) (k u : List UInt8) (hm : a.eval m = .map (some b)) (hx : a.eval x = .string (str k)) (h : KMap w b L)
    (hK : ∀ w', KMap w' b (put ⟨k, u, true⟩ L) → Chg (fun j => j = b) w w' → wpList P ops Q rest (a.put o.dst (.tuple #[])) w') : wpList P ops Q (o :: rest) a w := by
  refine wpList_plain hg fun K' hK' => ?_
  obtain ⟨w', hrun, r1, r2⟩ := run_deleteK (ty := o.type) hT hk h k u
  unfold Oper.wp
  simp [execOp, hop, resolve, invoke, builtin, hm, hx, hrun, Result.andThen]
  exact hK' _ _ (hK w' r1 r2)
end
theorem filt_step {p : MapEntry → Bool} {e : MapEntry} : ∀ (l : List MapEntry), (l.map (·.born)).Nodup → e ∈ l → p e = true → (l.filter p).Perm (e :: l.filter fun x => p x && x.born != e.born)
  | [], _, h, _ => by simp at h
  | x :: r, hn, h, hp => by
    rw [List.map_cons, List.nodup_cons] at hn
    by_cases hx : x = e
    · subst hx
      have : (r.filter fun y => p y && y.born != x.born) = r.filter p := List.filter_congr fun y hy => by
        have : y.born ≠ x.born := fun e => hn.1 (e ▸ List.mem_map.2 ⟨y, hy, rfl⟩)
        simp [this]
      rw [List.filter_cons, if_pos hp, List.filter_cons, if_neg (by simp), this]
    · have hr : e ∈ r := (List.mem_cons.1 h).resolve_left fun h => hx h.symm
      have ih := filt_step r hn.2 hr hp
      have hb : (x.born != e.born) = true := by
        have : x.born ≠ e.born := fun h2 => hn.1 (h2 ▸ List.mem_map.2 ⟨e, hr, rfl⟩)
        simpa using this
      rw [List.filter_cons, List.filter_cons, hb, Bool.and_true]
      by_cases hpx : p x = true
      · rw [if_pos hpx, if_pos hpx]
        exact (ih.cons x).trans (List.Perm.swap e x _)
      · rw [if_neg hpx, if_neg hpx]; exact ih
/-- block r is an iterator over the map m; got are the pairs that have come -/
def ItK (w : World) (m : Option Nat) (r : Nat) (L got : List Pr) : Prop := match m with
  | none => L = [] ∧ got = [] ∧ w.heap[r]? = some (.mapIter none 0 #[] 0)
  | some b => ∃ es clock seen, w.heap[b]? = some (.map es clock) ∧ Good es clock L ∧ w.heap[r]? = some (.mapIter (some b) clock seen clock) ∧ (got ++ (leftOf es seen).toList.map prOf).Perm (es.toList.map prOf)
/-- how many pairs are to come -/
def remK (w : World) (m : Option Nat) (r : Nat) : Nat := match m with
  | none => 0
  | some b => w.rangeLeft b r
theorem ItK.mapV {w : World} {m : Option Nat} {r : Nat} {L got : List Pr} (h : ItK w m r L got) : MapV w m L := by
  cases m with
  | none => exact h.1
  | some b => obtain ⟨es, clock, _, h1, h2, _⟩ := h; exact ⟨es, clock, h1, h2⟩
theorem ItK.rem {w : World} {m : Option Nat} {r : Nat} {L got : List Pr} (h : ItK w m r L got) : got.length + remK w m r = L.length := by
  cases m with
  | none => obtain ⟨rfl, rfl, -⟩ := h; rfl
  | some b =>
    obtain ⟨es, clock, seen, hb, g, hr, hp⟩ := h
    have := hp.length_eq
    rw [List.length_append, List.length_map, List.length_map] at this
    have h2 := g.size
    simp only [remK, World.rangeLeft, hb, hr]
    simp at this h2
    omega
theorem ItK.lt {w : World} {m : Option Nat} {r : Nat} {L got : List Pr} (h : ItK w m r L got) : r < w.heap.size ∧ ∀ b, m = some b → b < w.heap.size ∧ b ≠ r := by
  cases m with
  | none => exact ⟨(Array.getElem?_eq_some_iff.1 h.2.2).1, fun b e => by cases e⟩
  | some b =>
    obtain ⟨es, clock, seen, hb, -, hr, -⟩ := h
    refine ⟨(Array.getElem?_eq_some_iff.1 hr).1, fun b' e => ?_⟩
    cases e
    exact ⟨(Array.getElem?_eq_some_iff.1 hb).1, fun e => by rw [e, hr] at hb; cases hb⟩
theorem ItK.chg {w w' : World} {m : Option Nat} {r : Nat} {L got : List Pr} {F : Nat → Prop} (h : ItK w m r L got) (c : Chg F w w') (hr : ¬ F r) (hb : ∀ b, m = some b → ¬ F b) : ItK w' m r L got := by
  have hl := h.lt
  cases m with
  | none => exact ⟨h.1, h.2.1, (c.block _ hl.1 hr).trans h.2.2⟩
  | some b =>
    obtain ⟨es, clock, seen, h1, g, h2, hp⟩ := h
    exact ⟨es, clock, seen, (c.block _ (hl.2 b rfl).1 (hb b rfl)).trans h1, g, (c.block _ hl.1 hr).trans h2, hp⟩
theorem ItK.ext {w w' : World} {m : Option Nat} {r : Nat} {L got : List Pr} (h : ItK w m r L got) (e : Ext w w') : ItK w' m r L got := h.chg (Chg.of_ext (p := fun _ => False) e) id fun _ _ => id
theorem srt_apart {l m : List Pr} (h : Srt l) (p : m.Perm l) : m.Pairwise fun a b => a.n ≠ b.n :=
  (p.symm.pairwise_iff (fun {_ _} h => Ne.symm h)).1 (h.imp fun h => lt_ne h)
/-- what has come last is of the map, and none that came before has its name -/
theorem ItK.fresh {w : World} {m : Option Nat} {r : Nat} {L got : List Pr} {x : Pr} (h : ItK w m r L (got ++ [x])) : x ∈ L ∧ ∀ p ∈ got, p.n ≠ x.n := by
  cases m with
  | none => have := h.2.1; simp at this
  | some b =>
    obtain ⟨es, clock, seen, -, g, -, hp⟩ := h
    have ha := srt_apart g.srt (hp.trans g.perm)
    refine ⟨(hp.trans g.perm).mem_iff.1 (by simp), fun p hp2 => ?_⟩
    rw [List.append_assoc] at ha
    exact (List.pairwise_append.1 ha).2.2 p hp2 x (by simp)
theorem ItK.start {w : World} {m : Option Nat} {L : List Pr} (h : MapV w m L) {P : Program} {T kt et : TypeId} (hT : P.underlying T = some (.map kt et)) :
    ∃ w', (Instr.range T (.map m)).run P w = .ok (.pointer (some ⟨w.heap.size, 0, none⟩)) w' ∧ ItK w' m w.heap.size L [] ∧ Ext w w' ∧ w'.heap.size = w.heap.size + 1 := by
  cases m with
  | none =>
    refine ⟨_, run_range_nilMap w T kt et hT, ⟨h, rfl, (MapKept.heap_alloc w _).1⟩, (Ext.refl w).alloc _, alloc_sz _ _⟩
  | some b =>
    obtain ⟨es, clock, hb, g⟩ := h
    refine ⟨_, run_range_map w T kt et b es clock hT hb, ⟨es, clock, #[], ((Ext.refl w).alloc _).heap hb, g, (MapKept.heap_alloc w _).1, ?_⟩, (Ext.refl w).alloc _, alloc_sz _ _⟩
    have : leftOf es #[] = es := by unfold leftOf; simp
    rw [this]; exact List.Perm.refl _
theorem ItK.next {P : Program} {w : World} {m : Option Nat} {r : Nat} {L got : List Pr} (h : ItK w m r L got) (ty : TypeId) :
    ((∀ p, p ∈ got ↔ p ∈ L) ∧ (Instr.next (.pointer (some ⟨r, 0, none⟩)) false ty).run P w = .ok (.tuple #[.bool false]) w) ∨
    ∃ x w', ItK w' m r L (got ++ [x]) ∧ Chg (fun k => k = r) w w' ∧ (Instr.next (.pointer (some ⟨r, 0, none⟩)) false ty).run P w = .ok (.tuple #[.bool true, .string (str x.n), .string (str x.v)]) w' ∧
      (Instr.entry (.pointer (some ⟨r, 0, none⟩))).run P w' = .ok (.tuple #[.string (str x.n), .string (str x.v)]) w' := by
  cases m with
  | none =>
    obtain ⟨rfl, rfl, hr⟩ := h
    refine .inl ⟨fun p => Iff.rfl, ?_⟩
    simp [Instr.next, getObj, Sem.run, hr, Result.andThen]
  | some b =>
    have hne : r ≠ b := fun e => (h.lt.2 b rfl).2 e.symm
    obtain ⟨es, clock, seen, hm, g, hr, hp⟩ := h
    rcases run_next_at (P := P) w ty r b clock clock seen es clock hr hm g.st.1 (Nat.le_refl _) with ⟨h0, hrun⟩ | ⟨e, he, w1, hal, hrun⟩
    · refine .inl ⟨fun p => ?_, hrun⟩
      rw [Array.eq_empty_of_size_eq_zero h0] at hp
      simp only [List.map_nil, List.append_nil] at hp
      rw [hp.mem_iff, g.mem]
    · obtain ⟨hem, hes⟩ := mem_left he
      obtain ⟨hk, hv⟩ := g.en e hem
      have hr1 : w1.heap[r]? = some (.mapIter (some b) clock seen clock) := by rcases hal with rfl | rfl <;> exact hr
      have hb1 : w1.heap[b]? = some (.map es clock) := by rcases hal with rfl | rfl <;> exact hm
      have hset := MapKept.heap_set (o' := .mapIter (some b) clock (seen.push e.born) clock) hr1
      have hb2 : (ChangeMaps.setBlock w1 r (.mapIter (some b) clock (seen.push e.born) clock)).heap[b]? = some (.map es clock) := (hset.2 b fun q => hne q.symm).trans hb1
      have hen := run_entry_at (P := P) _ r b clock seen es clock e hset.1 hb2 hem g.st.2.1
      rw [hk, hv] at hen hrun
      refine .inr ⟨prOf e, _, ⟨es, clock, seen.push e.born, hb2, g, hset.1, ?_⟩, ?_, hrun, hen⟩
      · have h1 := filt_step (p := fun x => !seen.contains x.born) es.toList g.st.2.1 hem (by rw [hes]; rfl)
        have h2 : (leftOf es (seen.push e.born)).toList = es.toList.filter fun x => (!seen.contains x.born) && x.born != e.born := by
          unfold leftOf
          rw [Array.toList_filter]
          refine List.filter_congr fun x _ => ?_
          rw [contains_push, Bool.not_or]; rfl
        have h3 : (leftOf es seen).toList = es.toList.filter fun x => !seen.contains x.born := by unfold leftOf; rw [Array.toList_filter]
        rw [h2]
        rw [h3] at hp
        have h4 := h1.map prOf
        rw [List.map_cons] at h4
        rw [List.append_assoc, List.singleton_append]
        exact (h4.symm.append_left got).trans hp
      · rcases hal with rfl | rfl <;> exact ⟨rfl, rfl, rfl, by simp [ChangeMaps.setBlock], fun i _ hi => hset.2 i hi⟩
section
variable {P : Program} {ops : Array Oper} {rest : List Oper} {o : Oper} {a : Act} {w : World} {Q : Exit → Act → World → Prop} {L : List Pr} {kt et : TypeId}
theorem wpList_rangeK (hg : o.guard = none) (x : Operand) (T : TypeId) (hop : o.op = Op.range T x) (hT : P.underlying T = some (.map kt et)) (m : Option Nat) (hm : a.eval x = .map m) (h : MapV w m L)
    (hK : ∀ w', ItK w' m w.heap.size L [] → Ext w w' → w'.heap.size = w.heap.size + 1 → wpList P ops Q rest (a.put o.dst (.pointer (some ⟨w.heap.size, 0, none⟩))) w') : wpList P ops Q (o :: rest) a w := by
  refine wpList_plain hg fun K' hK' => ?_
  obtain ⟨w', hrun, r1, r2, r3⟩ := ItK.start h (P := P) hT
  unfold Oper.wp
  simp [execOp, hop, hm, hrun, Result.andThen]
  exact hK' _ _ (hK w' r1 r2 r3)
theorem wpList_nextK (hg : o.guard = none) (it : Operand) (hop : o.op = Op.next it false) (m : Option Nat) (r : Nat) (got : List Pr) (hit : a.eval it = .pointer (some ⟨r, 0, none⟩)) (h : ItK w m r L got)
    (hDone : (∀ p, p ∈ got ↔ p ∈ L) → wpList P ops Q rest (a.put o.dst (.tuple #[.bool false])) w)
    (hMore : ∀ x w', ItK w' m r L (got ++ [x]) → Chg (fun k => k = r) w w' → (Instr.entry (.pointer (some ⟨r, 0, none⟩))).run P w' = .ok (.tuple #[.string (str x.n), .string (str x.v)]) w' → wpList P ops Q rest (a.put o.dst (.tuple #[.bool true, .string (str x.n), .string (str x.v)])) w') :
    wpList P ops Q (o :: rest) a w := by
  refine wpList_plain hg fun K' hK' => ?_
  unfold Oper.wp
  rcases h.next (P := P) o.type with ⟨h0, hrun⟩ | ⟨x, w', h1, h2, hrun, hen⟩
  · simp [execOp, hop, hit, hrun, Result.andThen]
    exact hK' _ _ (hDone h0)
  · simp [execOp, hop, hit, hrun, Result.andThen]
    exact hK' _ _ (hMore x w' h1 h2 hen)
end
end Go.Proofs.YtkdmljijgfejpaaDoor


namespace Go.Proofs.YtkdmljijgfejpaaDoor
set_option linter.unusedVariables false
set_option linter.unusedSimpArgs false
open Go.RowKit Kv

theorem at_put {K got : List Pr} {x : Pr} (hs : Srt K) (h : ∀ p, p ∈ K ↔ p ∈ got) (hf : ∀ p ∈ got, p.n ≠ x.n) : ∀ p, p ∈ put ⟨x.n, x.v, false⟩ K ↔ p ∈ got ++ [x] := fun p => by
  rw [mem_put hs, h, List.mem_append, List.mem_singleton]
  constructor
  · rintro (⟨hp, -⟩ | ⟨-, rfl⟩)
    · exact .inl hp
    · exact .inr rfl
  · rintro (hp | rfl)
    · exact .inl ⟨hp, hf p hp⟩
    · exact .inr ⟨rfl, rfl⟩
set_option maxRecDepth 20000 in
set_option maxHeartbeats 4000000 in
theorem kvLeft_any (m : Option Nat) (v : Value) (L : List Pr) (cs : List Ch) (w : World) (hm : MapV w m L) (hc : Chs w v cs) :
    Calls Tryd.prog 39 #[.map m, v] w (Ret fun u w' => ∃ b, u = .map (some b) ∧ KMap w' b (after L cs) ∧ w.heap.size ≤ b ∧ Ext w w') := by
  obtain ⟨a, cap, rfl, hlm, hget⟩ := hc.shape
  have hgh := Lib.hid hget
  have hsrt := Lib.hid hm.srt
  clear hget hc
  obtain ⟨W1, hW1⟩ : ∃ W, W = w.alloc (.map #[] 0) := ⟨_, rfl⟩
  obtain ⟨B, hB⟩ : ∃ B, B = w.heap.size := ⟨_, rfl⟩
  have e1 := Lib.hid (show Ext w W1 from by rw [hW1]; exact (Ext.refl w).alloc _)
  have hk1 := Lib.hid (show KMap W1 B [] from by rw [hW1, hB]; exact KMap.made w)
  have hB1 := Lib.hid hB
  have hv1 := hm.ext e1.out
  have hmB := Lib.hid (show ∀ b, m = some b → b < B from fun b e => by subst e; rw [hB]; exact KMap.lt hm)
  clear hm
  have hmm := @run_makeMap Tryd.prog
  go_enter Tryd.func39, Tryd.ntmps39
  go_upto_region 2 with fail
  rw [← hW1, ← hB]
  clear hW1 hB
  go_wp2_with (at_range; refine wpList_rangeK rfl _ _ rfl Tryd.underlying71 m rfl hv1 ?_; intro w2 it2 e2 s2)
  go_frame
  obtain ⟨R, hR⟩ : ∃ R, R = W1.heap.size := ⟨_, rfl⟩
  rw [← hR] at it2 ⊢
  have hRB := Lib.hid (show B < R from by rw [hR]; exact hk1.out.lt)
  have hk2 := Lib.hid (hk1.out.ext e2)
  have e3 := Lib.hid (e1.out.trans e2)
  clear hR s2 e2 hv1
  go_loopw [] (fun wr => ∃ got K, ItK wr m R L got ∧ RowKit.Hid (KMap wr B K) ∧ RowKit.Hid (∀ p, p ∈ K ↔ p ∈ got) ∧ RowKit.Hid (Ext w wr)) (fun wr => remK wr m R)
  case atStart => exact ⟨[], [], it2, hk2, Lib.hid fun p => Iff.rfl, e3⟩
  case round =>
    obtain ⟨got, K, hit, hk, hKg, ek⟩ := hrel
    have hrem := Lib.hid hit.rem
    go_wp2_with (at_next; refine wpList_nextK rfl _ rfl m R got rfl hit ?_ ?_)
    · intro hdone
      have hKL := Lib.hid (show KMap wr B L from by rw [← srt_ext hk.out.srt hsrt.out fun p => (hKg.out p).trans (hdone p)]; exact hk.out)
      clear hk hKg hit hrem hmB hdone
      go_wp2
      go_loopw [23] (fun i wr => ∃ k : Nat, k ≤ cs.length ∧ i = .int .i64 (k : Int) ∧ RowKit.Hid (KMap wr B (after L (cs.take k))) ∧ RowKit.Hid (Ext w wr)) (fun i _ => cs.length - (intOf i).toNat)
      case atStart => exact ⟨0, Nat.zero_le _, rfl, Lib.hid hKL.out, ek⟩
      case round =>
        clear hKL
        obtain ⟨k, hk, rfl, hK, eq⟩ := hrel
        by_cases hlt : k < cs.length
        · obtain ⟨g, o, rfl, hr, hf⟩ := hgh.out k cs[k] (List.getElem?_eq_getElem hlt)
          have hki : (k : Int) < (cs.length : Int) := by omega
          have hw : IntKind.i64.wrap ((k : Int) + 1) = (k : Int) + 1 := by rw [IntKind.wrap_i64]; omega
          have hnx := Lib.hid (after_take (l := L) hlt)
          have hrw : wr.rangeAt g (o + k * 3) [.string (str cs[k].k), .string (str cs[k].v), .bool cs[k].g] := fun j u hu => eq.out.cell (hr j u hu)
          generalize cs[k] = x at *
          generalize after L (cs.take k) = M at *
          obtain ⟨K, V, G⟩ := x
          dsimp only at hrw hnx
          clear hr
          have hKB := Lib.hid (fun o => hK.out.ext ((Ext.refl wr).alloc o))
          have b0 : (wr.alloc (.cells #[.string (str K), .string (str V), .bool G] 26)).cell? ⟨wr.heap.size, 0, none⟩ = some (.string (str K)) := cell_at (heap_alloc_new wr _) 0 rfl
          have b1 : (wr.alloc (.cells #[.string (str K), .string (str V), .bool G] 26)).cell? ⟨wr.heap.size, 1, none⟩ = some (.string (str V)) := cell_at (heap_alloc_new wr _) 1 rfl
          have b2 : (wr.alloc (.cells #[.string (str K), .string (str V), .bool G] 26)).cell? ⟨wr.heap.size, 2, none⟩ = some (.bool G) := cell_at (heap_alloc_new wr _) 2 rfl
          clear hf
          cases G
          · go_wp2_with (first
              | (refine wpList_load_mid rfl 26 _ rfl g (o + k * 3) rfl [.string (str K), .string (str V), .bool false] _ hrw Tryd.underlying26 rfl info_ch ?_)
              | (at_mapUpdate; refine wpList_updateK rfl _ _ _ _ rfl Tryd.underlying71 Tryd.underlying9 B K V rfl rfl rfl (hKB.out _) ?_; intro w5 k5 c5))
            have e5 := (eq.out.alloc (.cells #[.string (str K), .string (str V), .bool false] 26)).chg c5 fun i hi => by have := hB1.out; omega
            go_roundw
            case rel => exact ⟨k + 1, by omega, by go_num, Lib.hid (by rw [hnx.out]; exact k5), Lib.hid e5⟩
            case measure => simp [intOf]; omega
          · go_wp2_with (first
              | (refine wpList_load_mid rfl 26 _ rfl g (o + k * 3) rfl [.string (str K), .string (str V), .bool true] _ hrw Tryd.underlying26 rfl info_ch ?_)
              | (at_delete; refine wpList_deleteK rfl _ _ _ rfl Tryd.underlying71 Tryd.underlying9 B K V rfl rfl (hKB.out _) ?_; intro w5 k5 c5))
            have e5 := (eq.out.alloc (.cells #[.string (str K), .string (str V), .bool true] 26)).chg c5 fun i hi => by have := hB1.out; omega
            go_roundw
            case rel => exact ⟨k + 1, by omega, by go_num, Lib.hid (by rw [hnx.out]; exact k5), Lib.hid e5⟩
            case measure => simp [intOf]; omega
        · obtain rfl : k = cs.length := by omega
          rw [List.take_length] at hK
          go_wp2
          go_ret
          exact Ret.mk ⟨B, rfl, hK.out, by rw [hB1.out]; exact Nat.le_refl _, eq.out⟩
    · intro x w3 it3 c3 hen
      have hf := it3.fresh
      go_wp2_with (at_mapUpdate; refine wpList_updateK rfl _ _ _ _ rfl Tryd.underlying71 Tryd.underlying9 B x.n x.v rfl rfl rfl (hk.out.chg c3 (by have := hRB.out; omega)) ?_; intro w4 k4 c4)
      have e4 := (ek.out.chg c3 fun i hi => by have := hRB.out; have := hB1.out; omega).chg c4 fun i hi => by have := hB1.out; omega
      have it4 := it3.chg c4 (by have := hRB.out; omega) fun b hb => by have := hmB.out b hb; omega
      have hrem4 := it4.rem
      rw [List.length_append, List.length_singleton] at hrem4
      go_roundw
      case rel => exact ⟨_, _, _, _, _, _, _, _, _, _, ⟨got ++ [x], _, it4, Lib.hid k4, Lib.hid (at_put hk.out.srt hKg.out hf.2), Lib.hid e4⟩, rfl⟩
      case measure => have := hrem.out; omega
end Go.Proofs.YtkdmljijgfejpaaDoor


