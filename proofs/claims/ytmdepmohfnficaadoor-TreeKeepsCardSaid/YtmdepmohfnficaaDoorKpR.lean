/- Changes and pairs, as they lie in memory; rows of them that a call owns. -/
import Derived.Test.YtmdepmohfnficaaDoorTrF2
import Derived.Test.YtmdepmohfnficaaDoorKpA
namespace Go.Proofs.YtmdepmohfnficaaDoor
set_option linter.unusedVariables false
set_option linter.unusedSimpArgs false
open Go.ChangeShapes Go.WideShapes Go.ChangeAt Go.RowKit
set_option maxRecDepth 20000

/-- the walk does not look into what is to be shown -/
theorem gen_postK {P : Program} {f : Nat} {av : Array Value} {w : World} {Q : Ending → World → Prop} (h : ∀ Q', RowKit.Hid (∀ e w', Q e w' → Q' e w') → Calls P f av w Q') : Calls P f av w Q := h Q (Lib.hid fun _ _ h => h)
section
variable {H : Type} {enc : TypeId × Value → H} {W : World} {base : Nat} {v : Value} {d : DataW H} {p : List MemPlace} {x : DataW H × List MemPlace}
def fit (l : List UInt8) : Prop := l.length ≤ 9223372036854775807
theorem cellsSK : Tryd.prog.cellsOf 9 = 1 := by kernel_rfl
theorem str_ofK {n : Nat} {cs : List Value} (h : DataW.trod enc Tryd.prog W 0 (fun _ => true) true n 9 cs = some x) : ∃ l, fit l ∧ cs = [.string (str l)] := by
  obtain ⟨s, h1, -, h3⟩ := DataW.trod_string Tryd.underlying9 h
  refine ⟨s.data.toList, ?_, h1⟩
  have : s.data.toList.length = s.size := rfl
  unfold maxLen at h3; unfold fit; omega
end
def chc (c : Kv.Ch) : List Value := [.string (str c.k), .string (str c.v), .bool c.g]
def chF (c : Kv.Ch) : Prop := fit c.k ∧ fit c.v
def prcK (p : Kv.Pr) : List Value := [.string (str p.n), .string (str p.v)]
def prFK (p : Kv.Pr) : Prop := fit p.n ∧ fit p.v
theorem chc_len (x : Kv.Ch) : (chc x).length = 3 := rfl
theorem prcK_len (x : Kv.Pr) : (prcK x).length = 2 := rfl
theorem rflat_len {α β : Type} {k : Nat} {f : α → List β} (hf : ∀ x, (f x).length = k) : ∀ l : List α, (l.flatMap f).length = l.length * k
  | [] => by simp
  | x :: r => by rw [List.flatMap_cons, List.length_append, hf, rflat_len hf r, List.length_cons, Nat.add_mul]; omega
theorem rflat_get {α β : Type} {k : Nat} {f : α → List β} (hf : ∀ x, (f x).length = k) : ∀ (l : List α) (q r : Nat) (x : α) (u : β), l[q]? = some x → (f x)[r]? = some u → (l.flatMap f)[q * k + r]? = some u
  | [], q, r, x, u, h, _ => by simp at h
  | y :: l, 0, r, x, u, h, hu => by
    simp only [List.getElem?_cons_zero, Option.some.injEq] at h
    subst h
    have := (List.getElem?_eq_some_iff.1 hu).1
    rw [List.flatMap_cons, Nat.zero_mul, Nat.zero_add, List.getElem?_append_left this, hu]
  | y :: l, q + 1, r, x, u, h, hu => by
    rw [List.getElem?_cons_succ] at h
    rw [List.flatMap_cons, List.getElem?_append_right (by rw [hf, Nat.add_mul]; omega), hf, show (q + 1) * k + r - k = q * k + r by rw [Nat.add_mul]; omega]
    exact rflat_get hf l q r x u h hu
theorem rflat_at {α β : Type} {k : Nat} {f : α → List β} (hf : ∀ x, (f x).length = k) (hk : 0 < k) {l : List α} {j : Nat} {u : β} (h : (l.flatMap f)[j]? = some u) : ∃ x, l[j / k]? = some x ∧ (f x)[j % k]? = some u := by
  have hj := (List.getElem?_eq_some_iff.1 h).1
  rw [rflat_len hf] at hj
  have hq : j / k < l.length := Nat.div_lt_of_lt_mul (by rw [Nat.mul_comm]; exact hj)
  have hx : l[j / k]? = some l[j / k] := List.getElem?_eq_getElem hq
  generalize l[j / k] = x at hx
  have hr : j % k < (f x).length := by rw [hf]; exact Nat.mod_lt _ hk
  refine ⟨x, hx, ?_⟩
  have h2 := rflat_get hf l (j / k) (j % k) x _ hx (List.getElem?_eq_getElem hr)
  rw [show j / k * k + j % k = j by rw [Nat.mul_comm]; exact Nat.div_add_mod j k, h] at h2
  rw [List.getElem?_eq_getElem hr, ← Option.some.inj h2]
/-! ### slices of structs of texts -/
/-- a slice whose elements are k cells each, as enc says -/
def Rs {α : Type} (k : Nat) (enc : α → List Value) (fits : α → Prop) (w : World) (v : Value) (l : List α) : Prop := Rw k (fun x cs => cs = enc x ∧ fits x) w v l
/-- .. which the call owns, in blocks of F -/
def OwnRs {α : Type} (E : TypeId) (k : Nat) (enc : α → List Value) (fits : α → Prop) (w : World) (F : Nat → Prop) (v : Value) (l : List α) : Prop := OwnF E k w F v l.length (l.flatMap enc) ∧ ∀ x ∈ l, fits x
section
variable {α : Type} {E T : TypeId} {k : Nat} {enc : α → List Value} {fits : α → Prop} {w w' : World} {F G : Nat → Prop} {v : Value} {l : List α}
theorem Rs.ext (h : Rs k enc fits w v l) (e : Ext w w') : Rs k enc fits w' v l := Rw.ext h e fun _ _ _ h => h
theorem Rs.nil (w : World) : Rs k enc fits w (.slice none 0 0) [] := Rw.nil _ _ w
theorem Rs.shape (h : Rs k enc fits w v l) : ∃ a cap, v = .slice a l.length cap ∧ (l.length : Int) ≤ 9223372036854775807 ∧ ∀ j x, l[j]? = some x → ∃ g o, a = some ⟨g, o, none⟩ ∧ w.rangeAt g (o + j * k) (enc x) ∧ fits x := by
  obtain ⟨a, cap, h1, h2, h3, h4, h5⟩ := h
  refine ⟨a, cap, h1, by unfold maxLen at h3; omega, fun j x hj => ?_⟩
  obtain ⟨g, o, cs, k1, -, k3, rfl, k4⟩ := h5 j x hj
  exact ⟨g, o, k1, k3, k4⟩
theorem Rs.allFit (h : Rs k enc fits w v l) : ∀ x ∈ l, fits x := fun x hx => by
  obtain ⟨a, cap, h1, h2, h3, h4, h5⟩ := h
  obtain ⟨j, hj⟩ := List.getElem?_of_mem hx
  obtain ⟨g, o, cs, -, -, -, -, k⟩ := h5 j x hj
  exact k
theorem Rs.lt (h : Rs k enc fits w v l) (hk : 0 < k) (hl : ∀ x, (enc x).length = k) : ∀ j, v.ownBlock = some j → l ≠ [] → j < w.heap.size := fun j hj hne => by
  obtain ⟨a, cap, rfl, h2, h3, h4, h5⟩ := h
  cases l with
  | nil => exact absurd rfl hne
  | cons x r =>
    obtain ⟨g, o, cs, rfl, k2, k3, rfl, -⟩ := h5 0 x rfl
    cases hj
    have h0 : 0 < (enc x).length := by rw [hl]; exact hk
    have := World.block_lt_of_cell? w _ (k3 0 _ (List.getElem?_eq_getElem h0))
    exact this
theorem OwnRs.ext (h : OwnRs E k enc fits w F v l) (e : Ext w w') : OwnRs E k enc fits w' F v l := ⟨h.1.ext e, h.2⟩
theorem OwnRs.mono (h : OwnRs E k enc fits w F v l) (hF : ∀ j, F j → G j) : OwnRs E k enc fits w G v l := ⟨h.1.mono hF, h.2⟩
theorem OwnRs.chg (h : OwnRs E k enc fits w F v l) (c : Chg G w w') (hG : ∀ j, F j → ¬ G j) : OwnRs E k enc fits w' F v l := ⟨h.1.chg c fun g _ _ => hG g, h.2⟩
theorem OwnRs.nil (w : World) (F : Nat → Prop) : OwnRs E k enc fits w F (.slice none 0 0) ([] : List α) := ⟨OwnF.nil E k w F, fun x h => by simp at h⟩
theorem OwnRs.rs (h : OwnRs E k enc fits w F v l) (hk : 0 < k) (hl : ∀ x, (enc x).length = k) : Rs k enc fits w v l := by
  obtain ⟨⟨⟨h1, h⟩, h2⟩, hf⟩ := h
  rcases h with ⟨rfl, hn⟩ | ⟨g, cap, cur, rfl, hb, hh, hn, hm, hs, ht⟩
  · obtain rfl := List.eq_nil_of_length_eq_zero hn
    exact Rs.nil w
  · refine ⟨_, cap, rfl, hn, hm, fun h => by simp at h, fun j x hj => ⟨g, 0, enc x, rfl, hl x, fun i u hu => ?_, rfl, hf x (List.mem_of_getElem? hj)⟩⟩
    have hi := (List.getElem?_eq_some_iff.1 hu).1
    rw [hl] at hi
    have hjl := (List.getElem?_eq_some_iff.1 hj).1
    have := rflat_get hl l j i x u hj hu
    have hlt : j * k + i < l.length * k := by
      have := Nat.mul_le_mul_right k (show j + 1 ≤ l.length by omega)
      rw [Nat.add_mul] at this; omega
    rw [← ht, List.getElem?_take, if_pos hlt] at this
    rw [cell_of_row w g _ cur _ _ hh, ← Array.getElem?_toList, Nat.zero_add]
    exact this
theorem OwnRs.shape (h : OwnRs E k enc fits w F v l) : ∃ a cap, v = .slice a l.length cap ∧ (∀ j, v.ownBlock = some j → F j) := by
  obtain ⟨⟨⟨h1, h⟩, h2⟩, hf⟩ := h
  rcases h with ⟨rfl, hn⟩ | ⟨g, cap, cur, rfl, hb, hh, hn, hm, hs, ht⟩
  · exact ⟨none, 0, by rw [hn], fun k hk => by simp [Value.ownBlock] at hk⟩
  · exact ⟨_, cap, rfl, h2⟩
theorem OwnRs.shapeN (h : OwnRs E k enc fits w F v l) : ∃ a cap, v = .slice a l.length cap := let ⟨a, c, h, _⟩ := h.shape; ⟨a, c, h⟩
/-- 'append(s, x...)', s of the call's own, x any -/
theorem run_appendRK (hT : Tryd.prog.underlying T = some (.slice E)) {z : Value} {bytes : Nat} (hI : (Tryd.prog.info? E).map (fun i => (i.zero, i.size, i.bytes)) = some (some z, k, bytes)) (hz : z.cells.size = k) (hby : bytes ≤ 1024) (hk : 0 < k) (hl : ∀ x, (enc x).length = k) (h1 : ∀ x, ∀ u ∈ enc x, u.oneCell' = true) (hkb : k ≤ 16)
    (ty : TypeId) (hown : OwnRs E k enc fits w F v l) (u : Value) (m : List α) (hu : Rs k enc fits w u m) (hlen : l.length + m.length ≤ 1048576) :
    ∃ v' w', (Builtin.append_ #[T, T] ty #[v, u]).run Tryd.prog w = .ok v' w' ∧ OwnRs E k enc fits w' (fun j => F j ∨ w.heap.size ≤ j) v' (l ++ m) ∧ Chg F w w' := by
  obtain ⟨a, cap, rfl, h2, h3, h4, h5⟩ := hu
  have hfit : ∀ x ∈ l ++ m, fits x := fun x hx => by
    rcases List.mem_append.1 hx with h | h
    · exact hown.2 x h
    · obtain ⟨j, hj⟩ := List.getElem?_of_mem h
      obtain ⟨g, o, cs, -, -, -, -, k⟩ := h5 j x hj
      exact k
  cases a with
  | none =>
    have hc := h4 rfl
    subst hc
    obtain rfl : m = [] := List.eq_nil_of_length_eq_zero (by omega)
    obtain ⟨i, hi, hz0, hz1, hz2⟩ := info_parts hI
    refine ⟨v, w, ?_, by rw [List.append_nil]; exact hown.mono fun _ => Or.inl, Chg.refl _ _⟩
    exact run_append_owned_none (P := Tryd.prog) w 0 T ty E i k hT hi v _ _ hown.1.1
  | some ad =>
    obtain ⟨v', w', hr, k1, k2⟩ := run_appendF (P := Tryd.prog) (E := E) (T := T) hT hI hz (by omega) ty w F v l.length (l.flatMap enc) hown.1 ad m.length cap (m.flatMap enc) (rflat_len hl m)
      (fun j y hy => by
        obtain ⟨x, hx, hy2⟩ := rflat_at hl hk hy
        obtain ⟨g, o, cs, e, -, hr, rfl, -⟩ := h5 _ x hx
        cases e
        have := hr _ y hy2
        rwa [Nat.add_assoc, show j / k * k + j % k = j by rw [Nat.mul_comm]; exact Nat.div_add_mod j k, ← Addr.add_lit] at this)
      (fun y hy => by
        obtain ⟨x, -, hx⟩ := List.mem_flatMap.1 hy
        exact h1 x y hx) (by unfold maxLen; omega) (by
          have : l.length + m.length ≤ 1048576 := hlen
          calc (l.length + m.length) * bytes ≤ 1048576 * 1024 := Nat.mul_le_mul hlen hby
            _ ≤ _ := by decide)
    refine ⟨v', w', hr, ⟨by rw [List.length_append, List.flatMap_append]; exact k1, hfit⟩, k2⟩
theorem wpList_appendRK (hT : Tryd.prog.underlying T = some (.slice E)) {z : Value} {bytes : Nat} (hI : (Tryd.prog.info? E).map (fun i => (i.zero, i.size, i.bytes)) = some (some z, k, bytes)) (hz : z.cells.size = k) (hby : bytes ≤ 1024) (hk : 0 < k) (hl : ∀ x, (enc x).length = k) (h1 : ∀ x, ∀ u ∈ enc x, u.oneCell' = true) (hkb : k ≤ 16)
    {ops : Array Oper} {rest : List Oper} {o : Oper} {a : Act} {Q : Exit → Act → World → Prop} (hgd : o.guard = none) (s x : Operand)
    (ho : o.op = .call { callee := .builtin .append, args := #[s, x], argTypes := #[T, T] })
    (F : Nat → Prop) (v : Value) (l : List α) (hs : a.eval s = v) (hown : OwnRs E k enc fits w F v l) (u : Value) (m : List α) (hx : a.eval x = u) (hb : Rs k enc fits w u m) (hlen : l.length + m.length ≤ 1048576)
    (h : ∀ v' w', OwnRs E k enc fits w' (fun j => F j ∨ w.heap.size ≤ j) v' (l ++ m) → Chg F w w' → wpList Tryd.prog ops Q rest (a.put o.dst v') w') : wpList Tryd.prog ops Q (o :: rest) a w := by
  refine wpList_plain hgd fun K hK => ?_
  obtain ⟨v', w', hr, h2, h3⟩ := run_appendRK hT hI hz hby hk hl h1 hkb o.type hown u m hb hlen
  unfold Oper.wp execOp
  simp only [ho, resolve, invoke, builtin, Sem.run_bind, Sem.run_pure, Result.andThen_ok, List.map_toArray, List.map_cons, List.map_nil, hs, hx, hr]
  exact hK _ _ (h v' w' h2 h3)
/-- one element in a block that was just laid -/
theorem Rs.one {C : Array Value} {fr : Nat × Nat} {g : Nat} {x : α} (hg : g = w.heap.size) (hC : C.toList = enc x) (hl : (enc x).length = k) (hf : fits x) : Rs k enc fits (w.alloc (.cells C E fr)) (.slice (some ⟨g, 0, none⟩) 1 1) [x] := by
  subst hg
  refine ⟨_, 1, rfl, by simp, by simp [maxLen], fun h => by simp at h, fun j y hj => ?_⟩
  obtain rfl : j = 0 := by
    have := (List.getElem?_eq_some_iff.1 hj).1
    simp at this; omega
  simp only [List.getElem?_cons_zero, Option.some.injEq] at hj
  subst hj
  refine ⟨w.heap.size, 0, enc x, rfl, hl, fun i u hu => ?_, rfl, hf⟩
  rw [cell_of_row _ _ _ _ _ _ (heap_alloc_new w _)]
  simp only [Nat.zero_mul, Nat.zero_add]
  rw [← Array.getElem?_toList, hC]
  exact hu
end
abbrev Chs (w : World) (v : Value) (l : List Kv.Ch) : Prop := Rs 3 chc chF w v l
abbrev PrsK (w : World) (v : Value) (l : List Kv.Pr) : Prop := Rs 2 prcK prFK w v l
abbrev OwnC (w : World) (F : Nat → Prop) (v : Value) (l : List Kv.Ch) : Prop := OwnRs 104 3 chc chF w F v l
abbrev OwnP (w : World) (F : Nat → Prop) (v : Value) (l : List Kv.Pr) : Prop := OwnRs 76 2 prcK prFK w F v l
theorem info_chz : (Tryd.prog.info? 104).map (fun i => (i.zero, i.size, i.bytes)) = some (some (.agg #[.string ⟨#[]⟩, .string ⟨#[]⟩, .bool false]), 3, 40) := by kernel_rfl
theorem info_prz : (Tryd.prog.info? 76).map (fun i => (i.zero, i.size, i.bytes)) = some (some (.agg #[.string ⟨#[]⟩, .string ⟨#[]⟩]), 2, 32) := by kernel_rfl
theorem info_ch : (Tryd.prog.info? 104).map (·.size) = some 3 := by kernel_rfl
theorem info_pr : (Tryd.prog.info? 76).map (·.size) = some 2 := by kernel_rfl
theorem chc_one (x : Kv.Ch) : ∀ u ∈ chc x, u.oneCell' = true := fun u hu => by
  simp [chc] at hu
  rcases hu with rfl | rfl | rfl <;> rfl
theorem prcK_one (x : Kv.Pr) : ∀ u ∈ prcK x, u.oneCell' = true := fun u hu => by
  simp [prcK] at hu
  rcases hu with rfl | rfl <;> rfl
theorem cellsCh : Tryd.prog.cellsOf 104 = 3 := by kernel_rfl
theorem cellsBo : Tryd.prog.cellsOf 4 = 1 := by kernel_rfl
section
variable {H : Type} {enc : TypeId × Value → H} {W : World} {base : Nat} {v : Value} {d : DataW H} {p : List MemPlace} {x : DataW H × List MemPlace}
theorem change_of {n : Nat} {cs : List Value} (hl : cs.length = 3) (hf : DataW.trod enc Tryd.prog W 0 (fun _ => true) true n 104 cs = some x) : ∃ y, cs = chc y ∧ chF y := by
  obtain ⟨xs, m, _, _, -, hn, h⟩ := DataW.trod_struct Tryd.underlying104 hf
  match cs, hl with
  | [c0, c1, c2], _ =>
    have hn2 : xs.length = 3 := hn
    match xs, hn2 with
    | [y0, y1, y2], _ =>
      have h0 : DataW.trod enc Tryd.prog W 0 (fun _ => true) true m 9 (([c0, c1, c2].drop 0).take (Tryd.prog.cellsOf 9)) = [y0, y1, y2][0]? := h 0 _ rfl
      have h1 : DataW.trod enc Tryd.prog W 0 (fun _ => true) true m 9 (([c0, c1, c2].drop 1).take (Tryd.prog.cellsOf 9)) = [y0, y1, y2][1]? := h 1 _ rfl
      have h2 : DataW.trod enc Tryd.prog W 0 (fun _ => true) true m 4 (([c0, c1, c2].drop 2).take (Tryd.prog.cellsOf 4)) = [y0, y1, y2][2]? := h 2 _ rfl
      simp only [cellsSK, cellsBo, List.drop_zero, List.drop_succ_cons, List.take_succ_cons, List.take_zero, List.getElem?_cons_zero, List.getElem?_cons_succ] at h0 h1 h2
      obtain ⟨a, ha, e0⟩ := str_ofK h0
      obtain ⟨b, hb, e1⟩ := str_ofK h1
      obtain ⟨z, e2, -⟩ := DataW.trod_bool Tryd.underlying4 h2
      cases e0
      cases e1
      cases e2
      exact ⟨⟨a, b, z⟩, rfl, ha, hb⟩
theorem chs_of {n : Nat} (hf : DataW.trod enc Tryd.prog W 0 (fun _ => true) true n 82 [v] = some x) : ∃ l, Chs W v l :=
  rows_of Tryd.underlying82 cellsCh (by decide) (fun _ _ _ hl h => change_of hl h) hf
theorem open_chs (hval : Value.okWide Tryd.prog W .any base 82 v) (h : DataW.Trod enc Tryd.prog W 0 (fun _ => true) true 82 v d p) : ∃ l, Chs W v l :=
  let ⟨_, _, hf⟩ := okw_slice Tryd.underlying82 hval h; chs_of hf
end
end Go.Proofs.YtmdepmohfnficaaDoor
