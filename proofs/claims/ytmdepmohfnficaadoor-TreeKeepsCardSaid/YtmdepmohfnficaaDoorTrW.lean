/- Records side by side in memory; a tree in memory. -/
import Derived.Test.YtmdepmohfnficaaDoorRecW
import Derived.Test.YtmdepmohfnficaaDoorTrMath
import Derived.Test.YtmdepmohfnficaaDoorOwn
import Derived.Test.YtmdepmohfnficaaDoorLift
import Derived.Deep.MidRow
import Derived.Deep.Grids
import Derived.SliceStrings
import Derived.ChangeMaps5
namespace Go.Proofs.YtmdepmohfnficaaDoor
set_option linter.unusedVariables false
set_option linter.unusedSimpArgs false
open Go.ChangeShapes Go.WideShapes Go.ChangeAt Go.RowKit Rk

set_option maxRecDepth 20000
theorem some_at {α : Type} {l : List α} {k : Nat} (h : k < l.length) : ∃ x, l[k]? = some x := ⟨l[k], List.getElem?_eq_getElem h⟩
theorem sel_none {W : World} {a : Addr} {u : Value} (h : W.cell? a = some u) : ∃ g o, a = ⟨g, o, none⟩ := by
  obtain ⟨g, o, s⟩ := a
  cases s with
  | none => exact ⟨g, o, rfl⟩
  | some s =>
    have : W.cell? ⟨g, o, some s⟩ = none := by
      unfold World.cell?
      cases W.heap[(⟨g, o, some s⟩ : Addr).block]? with
      | none => rfl
      | some ob => cases ob <;> simp
    rw [this] at h; simp at h
theorem list_of {α : Type} {Q : Nat → α → Prop} : ∀ (n : Nat), (∀ i, i < n → ∃ x, Q i x) → ∃ l : List α, l.length = n ∧ ∀ i x, l[i]? = some x → Q i x
  | 0, _ => ⟨[], rfl, fun i x h => by simp at h⟩
  | n + 1, h => by
    obtain ⟨l, hl, hq⟩ := list_of n fun i hi => h i (by omega)
    obtain ⟨x, hx⟩ := h n (by omega)
    refine ⟨l ++ [x], by simp [hl], fun i y hy => ?_⟩
    by_cases hi : i < n
    · rw [List.getElem?_append_left (by omega)] at hy; exact hq i y hy
    · have : i = n := by
        have := (List.getElem?_eq_some_iff.1 hy).1
        simp at this; omega
      subst this
      rw [List.getElem?_append_right (by omega)] at hy
      simp [hl] at hy
      rw [← hy]; exact hx
/-- a slice whose elements take k cells each, as C says of each -/
def Rw {α : Type} (k : Nat) (C : α → List Value → Prop) (w : World) (v : Value) (l : List α) : Prop :=
  ∃ a cap, v = .slice a l.length cap ∧ l.length ≤ cap ∧ cap ≤ maxLen ∧ (a = none → cap = 0) ∧ ∀ j x, l[j]? = some x → ∃ g o cs, a = some ⟨g, o, none⟩ ∧ cs.length = k ∧ w.rangeAt g (o + j * k) cs ∧ C x cs
theorem Rw.nil {α : Type} (k : Nat) (C : α → List Value → Prop) (w : World) : Rw k C w (.slice none 0 0) [] := ⟨none, 0, rfl, Nat.le_refl _, by simp [maxLen], fun _ => rfl, fun j x h => by simp at h⟩
theorem Rw.ext {α : Type} {k : Nat} {C D : α → List Value → Prop} {w w' : World} {v : Value} {l : List α} (h : Rw k C w v l) (e : Ext w w') (hc : ∀ x cs, x ∈ l → C x cs → D x cs) : Rw k D w' v l := by
  obtain ⟨a, cap, h1, h2, h3, h4, h5⟩ := h
  refine ⟨a, cap, h1, h2, h3, h4, fun j x hj => ?_⟩
  obtain ⟨g, o, cs, k1, k2, k3, k4⟩ := h5 j x hj
  exact ⟨g, o, cs, k1, k2, fun i u hu => e.cell (k3 i u hu), hc x cs (List.mem_of_getElem? hj) k4⟩
theorem Rw.shape {α : Type} {k : Nat} {C : α → List Value → Prop} {w : World} {v : Value} {l : List α} (h : Rw k C w v l) : ∃ a cap, v = .slice a l.length cap ∧ (l.length : Int) ≤ 9223372036854775807 ∧
    ∀ j x, l[j]? = some x → ∃ g o cs, a = some ⟨g, o, none⟩ ∧ w.rangeAt g (o + j * k) cs ∧ C x cs := by
  obtain ⟨a, cap, h1, h2, h3, h4, h5⟩ := h
  refine ⟨a, cap, h1, by unfold maxLen at h3; omega, fun j x hj => ?_⟩
  obtain ⟨g, o, cs, k1, -, k3, k4⟩ := h5 j x hj
  exact ⟨g, o, cs, k1, k3, k4⟩
section
variable {H : Type} {enc : TypeId × Value → H} {W : World} {base : Nat} {v : Value} {d : DataW H} {p : List MemPlace} {x : DataW H × List MemPlace}
theorem rows_of {α : Type} {k n : Nat} {C : α → List Value → Prop} {t e : TypeId} (ht : Tryd.prog.underlying t = some (.slice e)) (hk : Tryd.prog.cellsOf e = k) (hk0 : 0 < k)
    (he : ∀ m cs y, cs.length = k → DataW.trod enc Tryd.prog W 0 (fun _ => true) true m e cs = some y → ∃ x, C x cs) (hf : DataW.trod enc Tryd.prog W 0 (fun _ => true) true n t [v] = some x) : ∃ l, Rw k C W v l := by
  rcases Go.Deep.open_slice ht hf with ⟨hcs, -⟩ | ⟨a, len, cap, m, n, D, Pl, hcs, _, hl, hm, hmm, _, hi⟩
  · obtain rfl : v = .slice none 0 0 := by simpa using hcs
    exact ⟨[], Rw.nil k C W⟩
  · obtain rfl : v = .slice (some a) len cap := by simpa using hcs
    simp only [if_true] at hmm
    subst hmm
    obtain ⟨l, hll, hq⟩ : ∃ l : List α, l.length = len ∧ ∀ i x, l[i]? = some x → ∃ g o cs, some a = some ⟨g, o, none⟩ ∧ cs.length = k ∧ W.rangeAt g (o + i * k) cs ∧ C x cs := list_of len fun i hil => by
      obtain ⟨cs', hc, ht⟩ := hi i (by omega)
      rw [hk] at hc
      obtain ⟨-, hl', hat⟩ := World.cells?_some hc
      obtain ⟨q, hq⟩ := he _ cs' _ hl' ht
      obtain ⟨cs0, hc0, -⟩ := hi 0 (by omega)
      rw [hk] at hc0
      obtain ⟨-, hl0, hat0⟩ := World.cells?_some hc0
      have hat00 := hat0 0 (by omega)
      rw [Nat.zero_mul, Addr.add_zero', Addr.add_zero', List.getElem?_eq_getElem (by omega)] at hat00
      obtain ⟨g', o', rfl⟩ := sel_none hat00
      refine ⟨q, g', o', cs', rfl, hl', fun j u hu => ?_, hq⟩
      have hj : j < k := by
        have := (List.getElem?_eq_some_iff.1 hu).1
        omega
      have := hat j hj
      rw [Addr.add_mid, Addr.add_mid, hu] at this
      exact this
    exact ⟨l, some a, m, by rw [hll], by omega, hm, fun h => by simp at h, hq⟩
theorem okw_slice {t e : TypeId} (ht : Tryd.prog.underlying t = some (.slice e)) (hval : Value.okWide Tryd.prog W .any base t v) (h : DataW.Trod enc Tryd.prog W 0 (fun _ => true) true t v d p) : ∃ n x, DataW.trod enc Tryd.prog W 0 (fun _ => true) true n t [v] = some x := by
  obtain ⟨a0, len0, cap0, rfl⟩ := okWide_slice ht hval
  obtain ⟨fuel, hf⟩ := h
  exact ⟨fuel, _, by simpa [Value.cells] using hf⟩
end
theorem flat_len {α β : Type} {k : Nat} {f : α → List β} (hf : ∀ x, (f x).length = k) : ∀ l : List α, (l.flatMap f).length = l.length * k
  | [] => by simp
  | x :: r => by rw [List.flatMap_cons, List.length_append, hf, flat_len hf r, List.length_cons, Nat.add_mul]; omega
theorem flat_get {α β : Type} {k : Nat} {f : α → List β} (hf : ∀ x, (f x).length = k) : ∀ (l : List α) (q r : Nat) (x : α) (u : β), l[q]? = some x → (f x)[r]? = some u → (l.flatMap f)[q * k + r]? = some u
  | [], q, r, x, u, h, _ => by simp at h
  | y :: l, 0, r, x, u, h, hu => by
    simp only [List.getElem?_cons_zero, Option.some.injEq] at h
    subst h
    have := (List.getElem?_eq_some_iff.1 hu).1
    rw [List.flatMap_cons, Nat.zero_mul, Nat.zero_add, List.getElem?_append_left this, hu]
  | y :: l, q + 1, r, x, u, h, hu => by
    rw [List.getElem?_cons_succ] at h
    rw [List.flatMap_cons, List.getElem?_append_right (by rw [hf, Nat.add_mul]; omega), hf, show (q + 1) * k + r - k = q * k + r by rw [Nat.add_mul]; omega]
    exact flat_get hf l q r x u h hu
theorem flat_at {α β : Type} {k : Nat} {f : α → List β} (hf : ∀ x, (f x).length = k) (hk : 0 < k) {l : List α} {j : Nat} {u : β} (h : (l.flatMap f)[j]? = some u) : ∃ x, l[j / k]? = some x ∧ (f x)[j % k]? = some u := by
  have hj := (List.getElem?_eq_some_iff.1 h).1
  rw [flat_len hf] at hj
  obtain ⟨x, hx⟩ := some_at (l := l) (show j / k < l.length from Nat.div_lt_of_lt_mul (by rw [Nat.mul_comm]; exact hj))
  have hr : j % k < (f x).length := by rw [hf]; exact Nat.mod_lt _ hk
  refine ⟨x, hx, ?_⟩
  have h2 := flat_get hf l (j / k) (j % k) x _ hx (List.getElem?_eq_getElem hr)
  rw [show j / k * k + j % k = j by rw [Nat.mul_comm]; exact Nat.div_add_mod j k, h] at h2
  rw [List.getElem?_eq_getElem hr, ← Option.some.inj h2]
/-- rows in a block that was just laid -/
theorem Rw.block {α : Type} {k : Nat} {C : α → List Value → Prop} {f : α → List Value} (hf : ∀ x, (f x).length = k) {w : World} {T : TypeId} {fr : Nat × Nat} {l : List α} {g : Nat} (hg : g = w.heap.size) {cs : Array Value} (hcs : cs = (l.flatMap f).toArray) {n : Nat} (hn : n = l.length) (hm : l.length ≤ maxLen)
    (hC : ∀ x ∈ l, C x (f x)) : Rw k C (w.alloc (.cells cs T fr)) (.slice (some ⟨g, 0, none⟩) n n) l := by
  subst hg hn hcs
  refine ⟨_, _, rfl, Nat.le_refl _, hm, fun h => by simp at h, fun j y hj => ?_⟩
  refine ⟨w.heap.size, 0, f y, rfl, hf y, fun i u hu => ?_, hC y (List.mem_of_getElem? hj)⟩
  rw [cell_of_row _ _ _ _ _ _ (heap_alloc_new w _), List.getElem?_toArray, Nat.zero_add]
  exact flat_get hf l j i y u hj hu

/-! ### records -/
def prow (r : Rec) : List Value := (rcells r).toList
theorem prow_len (r : Rec) : (prow r).length = 10 := rfl
theorem prow_one {r : Rec} {u : Value} (h : u ∈ prow r) : u.oneCell' = true := by
  simp only [prow, rcells, List.mem_cons, List.not_mem_nil, or_false] at h
  rcases h with rfl | rfl | rfl | rfl | rfl | rfl | rfl | rfl | rfl | rfl <;> rfl
/-- records that are read -/
def Recs (w : World) (v : Value) (l : List Rec) : Prop := Rw 10 (fun x cs => cs = prow x ∧ Fits x) w v l
theorem Recs.ext {w w' : World} {v : Value} {l : List Rec} (h : Recs w v l) (e : Ext w w') : Recs w' v l := Rw.ext h e fun _ _ _ h => h
theorem Recs.nil (w : World) : Recs w (.slice none 0 0) [] := Rw.nil _ _ w
theorem info_recZ : (Tryd.prog.info? 36).map (fun i => (i.zero, i.size, i.bytes)) = some (some (.agg zcells), 10, 120) := by kernel_rfl
/-- records in blocks of F, which the call owns -/
def OwnR (w : World) (F : Nat → Prop) (v : Value) (l : List Rec) : Prop := OwnF 36 10 w F v l.length (l.flatMap prow) ∧ ∀ x ∈ l, Fits x
theorem OwnR.ext {w w' : World} {F : Nat → Prop} {v : Value} {l : List Rec} (h : OwnR w F v l) (e : Ext w w') : OwnR w' F v l := ⟨h.1.ext e, h.2⟩
theorem OwnR.mono {w : World} {F G : Nat → Prop} {v : Value} {l : List Rec} (h : OwnR w F v l) (k : ∀ j, F j → G j) : OwnR w G v l := ⟨h.1.mono k, h.2⟩
theorem OwnR.lt {w : World} {F : Nat → Prop} {v : Value} {l : List Rec} (h : OwnR w F v l) : OwnR w (fun k => F k ∧ k < w.heap.size) v l := ⟨h.1.lt, h.2⟩
theorem OwnR.chg {w w' : World} {F G : Nat → Prop} {v : Value} {l : List Rec} (h : OwnR w F v l) (c : Chg G w w') (hG : ∀ g cur, w.heap[g]? = some (.cells cur 36 (0, 0)) → F g → ¬ G g) : OwnR w' F v l := ⟨h.1.chg c hG, h.2⟩
theorem OwnR.nil (w : World) (F : Nat → Prop) : OwnR w F (.slice none 0 0) [] := ⟨OwnF.nil _ _ _ _, fun x h => by simp at h⟩
theorem OwnR.shape {w : World} {F : Nat → Prop} {v : Value} {l : List Rec} (h : OwnR w F v l) : ∃ a cap, v = .slice a l.length cap := by
  obtain ⟨⟨⟨h1, h⟩, h2⟩, hf⟩ := h
  rcases h with ⟨rfl, hn⟩ | ⟨g, cap, cur, rfl, hb, hh, hn, hm, hs, ht⟩
  · exact ⟨none, 0, by rw [hn]⟩
  · exact ⟨_, cap, rfl⟩
theorem OwnR.recs {w : World} {F : Nat → Prop} {v : Value} {l : List Rec} (h : OwnR w F v l) : Recs w v l := by
  obtain ⟨⟨⟨h1, h⟩, h2⟩, hf⟩ := h
  rcases h with ⟨rfl, hn⟩ | ⟨g, cap, cur, rfl, hb, hh, hn, hm, hs, ht⟩
  · obtain rfl := List.eq_nil_of_length_eq_zero hn
    exact Recs.nil w
  · refine ⟨_, cap, rfl, hn, hm, fun h => by simp at h, fun j x hj => ⟨g, 0, prow x, rfl, rfl, fun i u hu => ?_, rfl, hf x (List.mem_of_getElem? hj)⟩⟩
    have hi := (List.getElem?_eq_some_iff.1 hu).1
    rw [prow_len] at hi
    have hjl := (List.getElem?_eq_some_iff.1 hj).1
    have := flat_get prow_len l j i x u hj hu
    rw [← ht, List.getElem?_take, if_pos (by omega)] at this
    rw [cell_of_row w g _ cur _ _ hh, ← Array.getElem?_toList, Nat.zero_add]
    exact this
theorem OwnR.empty {w : World} {F : Nat → Prop} {g : Nat} (hg : g = w.heap.size) (hF : F w.heap.size) : OwnR (w.alloc (.cells #[] 36)) F (.slice (some ⟨g, 0, none⟩) 0 0) [] := by
  subst hg
  refine ⟨⟨World.ownsRow_made w #[] 0 (Nat.zero_le _) (by simp [maxLen]) rfl, fun k hk => ?_⟩, fun x h => by simp at h⟩
  simp [Value.ownBlock] at hk
  subst hk; exact hF
/-- 'append(s, x...)', s records of the call's own, x any records -/
theorem run_appendR (ty : TypeId) (w : World) (F : Nat → Prop) (v : Value) (l : List Rec) (hown : OwnR w F v l) (u : Value) (m : List Rec) (hu : Recs w u m) (hlen : l.length + m.length ≤ 1048576) :
    ∃ v' w', (Builtin.append_ #[22, 22] ty #[v, u]).run Tryd.prog w = .ok v' w' ∧ OwnR w' (fun k => F k ∨ w.heap.size ≤ k) v' (l ++ m) ∧ Chg F w w' := by
  obtain ⟨a, cap, rfl, h2, h3, h4, h5⟩ := hu
  have hfit : ∀ x ∈ l ++ m, Fits x := fun x hx => by
    rcases List.mem_append.1 hx with h | h
    · exact hown.2 x h
    · obtain ⟨j, hj⟩ := List.getElem?_of_mem h
      obtain ⟨g, o, cs, -, -, -, -, k⟩ := h5 j x hj
      exact k
  cases a with
  | none =>
    have hc := h4 rfl
    subst hc
    obtain rfl : m = [] := List.eq_nil_of_length_eq_zero (by omega)
    obtain ⟨i, hi, hz0, hz1, hz2⟩ := info_parts info_recZ
    refine ⟨v, w, ?_, by rw [List.append_nil]; exact hown.mono fun _ => Or.inl, Chg.refl _ _⟩
    exact run_append_owned_none (P := Tryd.prog) w 0 22 ty 36 i 10 Tryd.underlying22 hi v _ _ hown.1.1
  | some ad =>
    obtain ⟨v', w', hr, k1, k2⟩ := run_appendF (P := Tryd.prog) (E := 36) (T := 22) Tryd.underlying22 info_recZ (by rfl) (by decide) ty w F v l.length (l.flatMap prow) hown.1 ad m.length cap (m.flatMap prow) (flat_len prow_len m)
      (fun j y hy => by
        obtain ⟨x, hx, hy2⟩ := flat_at prow_len (by decide) hy
        obtain ⟨g, o, cs, e, -, hr, rfl, -⟩ := h5 _ x hx
        cases e
        have := hr _ y hy2
        rwa [Nat.add_assoc, show j / 10 * 10 + j % 10 = j by omega, ← Addr.add_lit] at this)
      (fun y hy => by
        obtain ⟨x, -, hx⟩ := List.mem_flatMap.1 hy
        exact prow_one hx) (by unfold maxLen; omega) (by omega)
    refine ⟨v', w', hr, ⟨by rw [List.length_append, List.flatMap_append]; exact k1, hfit⟩, k2⟩
theorem wpList_appendR {ops : Array Oper} {rest : List Oper} {o : Oper} {a : Act} {w : World} {Q : Exit → Act → World → Prop} (hw : Region.wanted o (yielded ops a.tmps) = true) (s x : Operand)
    (ho : o.op = .call { callee := .builtin .append, args := #[s, x], argTypes := #[22, 22] })
    (F : Nat → Prop) (v : Value) (l : List Rec) (hs : a.eval s = v) (hown : OwnR w F v l) (u : Value) (m : List Rec) (hx : a.eval x = u) (hb : Recs w u m) (hlen : l.length + m.length ≤ 1048576)
    (h : ∀ v' w', OwnR w' (fun k => F k ∨ w.heap.size ≤ k) v' (l ++ m) → Chg F w w' → wpList Tryd.prog ops Q rest (a.put o.dst v') w') : wpList Tryd.prog ops Q (o :: rest) a w :=
  wpList_step fun K hK => by
    rw [if_pos hw]
    obtain ⟨v', w', hr, h2, h3⟩ := run_appendR o.type w F v l hown u m hb hlen
    unfold Oper.wp execOp
    simp only [ho, resolve, invoke, builtin, Sem.run_bind, Sem.run_pure, Result.andThen_ok, List.map_toArray, List.map_cons, List.map_nil, hs, hx, hr]
    exact hK _ _ (h v' w' h2 h3)
/-- one record in a block that was just laid -/
theorem Recs.one {w : World} {C : Array Value} {fr : Nat × Nat} {g : Nat} {r : Rec} (hg : g = w.heap.size) (hC : C = rcells r) (hf : Fits r) : Recs (w.alloc (.cells C 36 fr)) (.slice (some ⟨g, 0, none⟩) 1 1) [r] :=
  Rw.block (f := prow) prow_len hg (by rw [hC]; simp [prow]) rfl (by simp [maxLen]) fun x hx => by
    obtain rfl : x = r := by simpa using hx
    exact ⟨rfl, hf⟩
theorem info_recS : (Tryd.prog.info? 36).map (·.size) = some 10 := by kernel_rfl
theorem info_strS : (Tryd.prog.info? 9).map (fun i => (i.zero, i.size, i.bytes)) = some (some (.string ⟨#[]⟩), 1, 16) := by kernel_rfl

/-! ### a tree -/
/-- the tree at block p, whose blocks are of F -/
def TrM (T : TypeId) (w : World) (F : Nat → Prop) (p : Nat) (room : Nat) (l : List Rec) : Prop := ∃ v, w.heap[p]? = some (.cells #[.int .i64 (room : Int), v] T (0, 0)) ∧ F p ∧ OwnR w F v l
theorem TrM.ext {T : TypeId} {w w' : World} {F : Nat → Prop} {p room : Nat} {l : List Rec} (h : TrM T w F p room l) (e : Ext w w') : TrM T w' F p room l := let ⟨v, h1, h2, h3⟩ := h; ⟨v, e.heap h1, h2, h3.ext e⟩
theorem TrM.mono {T : TypeId} {w : World} {F G : Nat → Prop} {p room : Nat} {l : List Rec} (h : TrM T w F p room l) (k : ∀ j, F j → G j) : TrM T w G p room l := let ⟨v, h1, h2, h3⟩ := h; ⟨v, h1, k p h2, h3.mono k⟩
theorem TrM.lt {T : TypeId} {w : World} {F : Nat → Prop} {p room : Nat} {l : List Rec} (h : TrM T w F p room l) : TrM T w (fun k => F k ∧ k < w.heap.size) p room l := let ⟨v, h1, h2, h3⟩ := h; ⟨v, h1, ⟨h2, (Array.getElem?_eq_some_iff.1 h1).1⟩, h3.lt⟩
theorem TrM.chg {T : TypeId} {w w' : World} {F G : Nat → Prop} {p room : Nat} {l : List Rec} (h : TrM T w F p room l) (c : Chg G w w') (hG : ∀ k, F k → k < w.heap.size → ¬ G k) : TrM T w' F p room l := by
  obtain ⟨v, h1, h2, h3⟩ := h
  have hp := (Array.getElem?_eq_some_iff.1 h1).1
  exact ⟨v, by rw [c.block p hp (hG p h2 hp)]; exact h1, h2, h3.chg c fun g cur hg hf => hG g hf (Array.getElem?_eq_some_iff.1 hg).1⟩
end Go.Proofs.YtmdepmohfnficaaDoor
