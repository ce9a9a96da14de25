/- Changes and pairs, as they lie in memory; rows of them that a call owns. -/
import Derived.Test.YtkdmljijgfejpaaDoorRws
import Derived.Test.YtkdmljijgfejpaaDoorOwn
import Derived.Test.YtkdmljijgfejpaaDoorGKm
import Derived.Test.YtkdmljijgfejpaaDoorMem
import Derived.Test.YtkdmljijgfejpaaDoorWlB
import Derived.StillTailTactics
import Derived.Deep.RegionHeld3
import Derived.Deep.DeepCutAuto
import Derived.Deep.CutBlock
import Derived.Test.YtkdmljijgfejpaaDoorWlC
import Derived.Test.YtkdmljijgfejpaaDoorLL
import Derived.Lib.AppendStr
import Derived.Test.YtkdmljijgfejpaaDoorGDk
namespace Go.Proofs.YtkdmljijgfejpaaDoor
set_option linter.unusedVariables false
set_option linter.unusedSimpArgs false
open Go.ChangeShapes Go.WideShapes Go.ChangeAt Go.RowKit
set_option maxRecDepth 20000

/-- the walk does not look into what is to be shown -/
theorem gen_post {P : Program} {f : Nat} {av : Array Value} {w : World} {Q : Ending → World → Prop} (h : ∀ Q', RowKit.Hid (∀ e w', Q e w' → Q' e w') → Calls P f av w Q') : Calls P f av w Q := h Q (Lib.hid fun _ _ h => h)
def chc (c : Kv.Ch) : List Value := [.string (str c.k), .string (str c.v), .bool c.g]
def chF (c : Kv.Ch) : Prop := fit c.k ∧ fit c.v
def prc (p : Kv.Pr) : List Value := [.string (str p.n), .string (str p.v)]
def prF (p : Kv.Pr) : Prop := fit p.n ∧ fit p.v
theorem chc_len (x : Kv.Ch) : (chc x).length = 3 := rfl
theorem prc_len (x : Kv.Pr) : (prc x).length = 2 := rfl
theorem rflat_len {α β : Type} {k : Nat} {f : α → List β} (hf : ∀ x, (f x).length = k) : ∀ l : List α, (l.flatMap f).length = l.length * k
  | [] => by simp
  | x :: r => by rw [List.flatMap_cons, List.length_append, hf, rflat_len hf r, List.length_cons, Nat.add_mul]; omega
theorem rflat_get {α β : Type} {k : Nat} {f : α → List β} (hf : ∀ x, (f x).length = k) : ∀ (l : List α) (q r : Nat) (x : α) (u : β), l[q]? = some x → (f x)[r]? = some u → (l.flatMap f)[q * k + r]? = some u
  | [], q, r, x, u, h, _ => by simp at h
  | y :: l, 0, r, x, u, h, hu => by
    simp only [List.getElem?_cons_zero, Option.some.injEq] at h
    subst h
    have := (List.getElem?_eq_some_iff.1 hu).1
    rw [List.flatMap_cons, Nat.zero_mul, Nat.zero_add, List.getElem?_append_left this, hu]
  | y :: l, q + 1, r, x, u, h, hu => by
    rw [List.getElem?_cons_succ] at h
    rw [List.flatMap_cons, List.getElem?_append_right (by rw [hf, Nat.add_mul]; omega), hf, show (q + 1) * k + r - k = q * k + r by rw [Nat.add_mul]; omega]
    exact rflat_get hf l q r x u h hu
theorem rflat_at {α β : Type} {k : Nat} {f : α → List β} (hf : ∀ x, (f x).length = k) (hk : 0 < k) {l : List α} {j : Nat} {u : β} (h : (l.flatMap f)[j]? = some u) : ∃ x, l[j / k]? = some x ∧ (f x)[j % k]? = some u := by
  have hj := (List.getElem?_eq_some_iff.1 h).1
  rw [rflat_len hf] at hj
  have hq : j / k < l.length := Nat.div_lt_of_lt_mul (by rw [Nat.mul_comm]; exact hj)
  have hx : l[j / k]? = some l[j / k] := List.getElem?_eq_getElem hq
  generalize l[j / k] = x at hx
  have hr : j % k < (f x).length := by rw [hf]; exact Nat.mod_lt _ hk
  refine ⟨x, hx, ?_⟩
  have h2 := rflat_get hf l (j / k) (j % k) x _ hx (List.getElem?_eq_getElem hr)
  rw [show j / k * k + j % k = j by rw [Nat.mul_comm]; exact Nat.div_add_mod j k, h] at h2
  rw [List.getElem?_eq_getElem hr, ← Option.some.inj h2]
/-! ### slices of structs of texts -/
/-- a slice whose elements are k cells each, as enc says -/
def Rs {α : Type} (k : Nat) (enc : α → List Value) (fits : α → Prop) (w : World) (v : Value) (l : List α) : Prop := Rw k (fun x cs => cs = enc x ∧ fits x) w v l
/-- .. which the call owns, in blocks of F -/
def OwnRs {α : Type} (E : TypeId) (k : Nat) (enc : α → List Value) (fits : α → Prop) (w : World) (F : Nat → Prop) (v : Value) (l : List α) : Prop := OwnF E k w F v l.length (l.flatMap enc) ∧ ∀ x ∈ l, fits x
section
variable {α : Type} {E T : TypeId} {k : Nat} {enc : α → List Value} {fits : α → Prop} {w w' : World} {F G : Nat → Prop} {v : Value} {l : List α}
theorem Rs.ext (h : Rs k enc fits w v l) (e : Ext w w') : Rs k enc fits w' v l := Rw.ext h e fun _ _ _ h => h
theorem Rs.nil (w : World) : Rs k enc fits w (.slice none 0 0) [] := Rw.nil _ _ w
theorem Rs.shape (h : Rs k enc fits w v l) : ∃ a cap, v = .slice a l.length cap ∧ (l.length : Int) ≤ 9223372036854775807 ∧ ∀ j x, l[j]? = some x → ∃ g o, a = some ⟨g, o, none⟩ ∧ w.rangeAt g (o + j * k) (enc x) ∧ fits x := by
  obtain ⟨a, cap, h1, h2, h3, h4, h5⟩ := h
  refine ⟨a, cap, h1, by unfold maxLen at h3; omega, fun j x hj => ?_⟩
  obtain ⟨g, o, cs, k1, -, k3, rfl, k4⟩ := h5 j x hj
  exact ⟨g, o, k1, k3, k4⟩
theorem Rs.allFit (h : Rs k enc fits w v l) : ∀ x ∈ l, fits x := fun x hx => by
  obtain ⟨a, cap, h1, h2, h3, h4, h5⟩ := h
  obtain ⟨j, hj⟩ := List.getElem?_of_mem hx
  obtain ⟨g, o, cs, -, -, -, -, k⟩ := h5 j x hj
  exact k
theorem Rs.lt (h : Rs k enc fits w v l) (hk : 0 < k) (hl : ∀ x, (enc x).length = k) : ∀ j, v.ownBlock = some j → l ≠ [] → j < w.heap.size := fun j hj hne => by
  obtain ⟨a, cap, rfl, h2, h3, h4, h5⟩ := h
  cases l with
  | nil => exact absurd rfl hne
  | cons x r =>
    obtain ⟨g, o, cs, rfl, k2, k3, rfl, -⟩ := h5 0 x rfl
    cases hj
    have h0 : 0 < (enc x).length := by rw [hl]; exact hk
    have := World.block_lt_of_cell? w _ (k3 0 _ (List.getElem?_eq_getElem h0))
    exact this
theorem OwnRs.ext (h : OwnRs E k enc fits w F v l) (e : Ext w w') : OwnRs E k enc fits w' F v l := ⟨h.1.ext e, h.2⟩
theorem OwnRs.mono (h : OwnRs E k enc fits w F v l) (hF : ∀ j, F j → G j) : OwnRs E k enc fits w G v l := ⟨h.1.mono hF, h.2⟩
theorem OwnRs.chg (h : OwnRs E k enc fits w F v l) (c : Chg G w w') (hG : ∀ j, F j → ¬ G j) : OwnRs E k enc fits w' F v l := ⟨h.1.chg c fun g _ _ => hG g, h.2⟩
theorem OwnRs.nil (w : World) (F : Nat → Prop) : OwnRs E k enc fits w F (.slice none 0 0) ([] : List α) := ⟨OwnF.nil E k w F, fun x h => by simp at h⟩
theorem OwnRs.rs (h : OwnRs E k enc fits w F v l) (hk : 0 < k) (hl : ∀ x, (enc x).length = k) : Rs k enc fits w v l := by
  obtain ⟨⟨⟨h1, h⟩, h2⟩, hf⟩ := h
  rcases h with ⟨rfl, hn⟩ | ⟨g, cap, cur, rfl, hb, hh, hn, hm, hs, ht⟩
  · obtain rfl := List.eq_nil_of_length_eq_zero hn
    exact Rs.nil w
  · refine ⟨_, cap, rfl, hn, hm, fun h => by simp at h, fun j x hj => ⟨g, 0, enc x, rfl, hl x, fun i u hu => ?_, rfl, hf x (List.mem_of_getElem? hj)⟩⟩
    have hi := (List.getElem?_eq_some_iff.1 hu).1
    rw [hl] at hi
    have hjl := (List.getElem?_eq_some_iff.1 hj).1
    have := rflat_get hl l j i x u hj hu
    have hlt : j * k + i < l.length * k := by
      have := Nat.mul_le_mul_right k (show j + 1 ≤ l.length by omega)
      rw [Nat.add_mul] at this; omega
    rw [← ht, List.getElem?_take, if_pos hlt] at this
    rw [cell_of_row w g _ cur _ _ hh, ← Array.getElem?_toList, Nat.zero_add]
    exact this
theorem OwnRs.shape (h : OwnRs E k enc fits w F v l) : ∃ a cap, v = .slice a l.length cap ∧ (∀ j, v.ownBlock = some j → F j) := by
  obtain ⟨⟨⟨h1, h⟩, h2⟩, hf⟩ := h
  rcases h with ⟨rfl, hn⟩ | ⟨g, cap, cur, rfl, hb, hh, hn, hm, hs, ht⟩
  · exact ⟨none, 0, by rw [hn], fun k hk => by simp [Value.ownBlock] at hk⟩
  · exact ⟨_, cap, rfl, h2⟩
theorem OwnRs.shapeN (h : OwnRs E k enc fits w F v l) : ∃ a cap, v = .slice a l.length cap := let ⟨a, c, h, _⟩ := h.shape; ⟨a, c, h⟩
/-- 'append(s, x...)', s of the call's own, x any -/
theorem run_appendR (hT : Tryd.prog.underlying T = some (.slice E)) {z : Value} {bytes : Nat} (hI : (Tryd.prog.info? E).map (fun i => (i.zero, i.size, i.bytes)) = some (some z, k, bytes)) (hz : z.cells.size = k) (hby : bytes ≤ 1024) (hk : 0 < k) (hl : ∀ x, (enc x).length = k) (h1 : ∀ x, ∀ u ∈ enc x, u.oneCell' = true) (hkb : k ≤ 16)
    (ty : TypeId) (hown : OwnRs E k enc fits w F v l) (u : Value) (m : List α) (hu : Rs k enc fits w u m) (hlen : l.length + m.length ≤ 1048576) :
    ∃ v' w', (Builtin.append_ #[T, T] ty #[v, u]).run Tryd.prog w = .ok v' w' ∧ OwnRs E k enc fits w' (fun j => F j ∨ w.heap.size ≤ j) v' (l ++ m) ∧ Chg F w w' := by
  obtain ⟨a, cap, rfl, h2, h3, h4, h5⟩ := hu
  have hfit : ∀ x ∈ l ++ m, fits x := fun x hx => by
    rcases List.mem_append.1 hx with h | h
    · exact hown.2 x h
    · obtain ⟨j, hj⟩ := List.getElem?_of_mem h
      obtain ⟨g, o, cs, -, -, -, -, k⟩ := h5 j x hj
      exact k
  cases a with
  | none =>
    have hc := h4 rfl
    subst hc
    obtain rfl : m = [] := List.eq_nil_of_length_eq_zero (by omega)
    obtain ⟨i, hi, hz0, hz1, hz2⟩ := info_parts hI
    refine ⟨v, w, ?_, by rw [List.append_nil]; exact hown.mono fun _ => Or.inl, Chg.refl _ _⟩
    exact run_append_owned_none (P := Tryd.prog) w 0 T ty E i k hT hi v _ _ hown.1.1
  | some ad =>
    obtain ⟨v', w', hr, k1, k2⟩ := run_appendF (P := Tryd.prog) (E := E) (T := T) hT hI hz (by omega) ty w F v l.length (l.flatMap enc) hown.1 ad m.length cap (m.flatMap enc) (rflat_len hl m)
      (fun j y hy => by
        obtain ⟨x, hx, hy2⟩ := rflat_at hl hk hy
        obtain ⟨g, o, cs, e, -, hr, rfl, -⟩ := h5 _ x hx
        cases e
        have := hr _ y hy2
        rwa [Nat.add_assoc, show j / k * k + j % k = j by rw [Nat.mul_comm]; exact Nat.div_add_mod j k, ← Addr.add_lit] at this)
      (fun y hy => by
        obtain ⟨x, -, hx⟩ := List.mem_flatMap.1 hy
        exact h1 x y hx) (by unfold maxLen; omega) (by
          have : l.length + m.length ≤ 1048576 := hlen
          calc (l.length + m.length) * bytes ≤ 1048576 * 1024 := Nat.mul_le_mul hlen hby
            _ ≤ _ := by decide)
    refine ⟨v', w', hr, ⟨by rw [List.length_append, List.flatMap_append]; exact k1, hfit⟩, k2⟩
theorem wpList_appendR (hT : Tryd.prog.underlying T = some (.slice E)) {z : Value} {bytes : Nat} (hI : (Tryd.prog.info? E).map (fun i => (i.zero, i.size, i.bytes)) = some (some z, k, bytes)) (hz : z.cells.size = k) (hby : bytes ≤ 1024) (hk : 0 < k) (hl : ∀ x, (enc x).length = k) (h1 : ∀ x, ∀ u ∈ enc x, u.oneCell' = true) (hkb : k ≤ 16)
    {ops : Array Oper} {rest : List Oper} {o : Oper} {a : Act} {Q : Exit → Act → World → Prop} (hgd : o.guard = none) (s x : Operand)
    (ho : o.op = .call { callee := .builtin .append, args := #[s, x], argTypes := #[T, T] })
    (F : Nat → Prop) (v : Value) (l : List α) (hs : a.eval s = v) (hown : OwnRs E k enc fits w F v l) (u : Value) (m : List α) (hx : a.eval x = u) (hb : Rs k enc fits w u m) (hlen : l.length + m.length ≤ 1048576)
    (h : ∀ v' w', OwnRs E k enc fits w' (fun j => F j ∨ w.heap.size ≤ j) v' (l ++ m) → Chg F w w' → wpList Tryd.prog ops Q rest (a.put o.dst v') w') : wpList Tryd.prog ops Q (o :: rest) a w := by
  refine wpList_plain hgd fun K hK => ?_
  obtain ⟨v', w', hr, h2, h3⟩ := run_appendR hT hI hz hby hk hl h1 hkb o.type hown u m hb hlen
  unfold Oper.wp execOp
  simp only [ho, resolve, invoke, builtin, Sem.run_bind, Sem.run_pure, Result.andThen_ok, List.map_toArray, List.map_cons, List.map_nil, hs, hx, hr]
  exact hK _ _ (h v' w' h2 h3)
/-- one element in a block that was just laid -/
theorem Rs.one {C : Array Value} {fr : Nat × Nat} {g : Nat} {x : α} (hg : g = w.heap.size) (hC : C.toList = enc x) (hl : (enc x).length = k) (hf : fits x) : Rs k enc fits (w.alloc (.cells C E fr)) (.slice (some ⟨g, 0, none⟩) 1 1) [x] := by
  subst hg
  refine ⟨_, 1, rfl, by simp, by simp [maxLen], fun h => by simp at h, fun j y hj => ?_⟩
  obtain rfl : j = 0 := by
    have := (List.getElem?_eq_some_iff.1 hj).1
    simp at this; omega
  simp only [List.getElem?_cons_zero, Option.some.injEq] at hj
  subst hj
  refine ⟨w.heap.size, 0, enc x, rfl, hl, fun i u hu => ?_, rfl, hf⟩
  rw [cell_of_row _ _ _ _ _ _ (heap_alloc_new w _)]
  simp only [Nat.zero_mul, Nat.zero_add]
  rw [← Array.getElem?_toList, hC]
  exact hu
end
abbrev Chs (w : World) (v : Value) (l : List Kv.Ch) : Prop := Rs 3 chc chF w v l
abbrev Prs (w : World) (v : Value) (l : List Kv.Pr) : Prop := Rs 2 prc prF w v l
abbrev OwnC (w : World) (F : Nat → Prop) (v : Value) (l : List Kv.Ch) : Prop := OwnRs 26 3 chc chF w F v l
abbrev OwnP (w : World) (F : Nat → Prop) (v : Value) (l : List Kv.Pr) : Prop := OwnRs 86 2 prc prF w F v l
theorem info_chz : (Tryd.prog.info? 26).map (fun i => (i.zero, i.size, i.bytes)) = some (some (.agg #[.string ⟨#[]⟩, .string ⟨#[]⟩, .bool false]), 3, 40) := by kernel_rfl
theorem info_prz : (Tryd.prog.info? 86).map (fun i => (i.zero, i.size, i.bytes)) = some (some (.agg #[.string ⟨#[]⟩, .string ⟨#[]⟩]), 2, 32) := by kernel_rfl
theorem info_ch : (Tryd.prog.info? 26).map (·.size) = some 3 := by kernel_rfl
theorem info_pr : (Tryd.prog.info? 86).map (·.size) = some 2 := by kernel_rfl
theorem chc_one (x : Kv.Ch) : ∀ u ∈ chc x, u.oneCell' = true := fun u hu => by
  simp [chc] at hu
  rcases hu with rfl | rfl | rfl <;> rfl
theorem prc_one (x : Kv.Pr) : ∀ u ∈ prc x, u.oneCell' = true := fun u hu => by
  simp [prc] at hu
  rcases hu with rfl | rfl <;> rfl
theorem cellsCh : Tryd.prog.cellsOf 26 = 3 := by kernel_rfl
theorem cellsBo : Tryd.prog.cellsOf 4 = 1 := by kernel_rfl
section
variable {H : Type} {enc : TypeId × Value → H} {W : World} {base : Nat} {v : Value} {d : DataW H} {p : List MemPlace} {x : DataW H × List MemPlace}
theorem change_of {n : Nat} {cs : List Value} (hl : cs.length = 3) (hf : DataW.trod enc Tryd.prog W 0 (fun _ => true) true n 26 cs = some x) : ∃ y, cs = chc y ∧ chF y := by
  obtain ⟨xs, m, _, _, -, hn, h⟩ := DataW.trod_struct Tryd.underlying26 hf
  match cs, hl with
  | [c0, c1, c2], _ =>
    have hn2 : xs.length = 3 := hn
    match xs, hn2 with
    | [y0, y1, y2], _ =>
      have h0 : DataW.trod enc Tryd.prog W 0 (fun _ => true) true m 9 (([c0, c1, c2].drop 0).take (Tryd.prog.cellsOf 9)) = [y0, y1, y2][0]? := h 0 _ rfl
      have h1 : DataW.trod enc Tryd.prog W 0 (fun _ => true) true m 9 (([c0, c1, c2].drop 1).take (Tryd.prog.cellsOf 9)) = [y0, y1, y2][1]? := h 1 _ rfl
      have h2 : DataW.trod enc Tryd.prog W 0 (fun _ => true) true m 4 (([c0, c1, c2].drop 2).take (Tryd.prog.cellsOf 4)) = [y0, y1, y2][2]? := h 2 _ rfl
      simp only [cellsS, cellsBo, List.drop_zero, List.drop_succ_cons, List.take_succ_cons, List.take_zero, List.getElem?_cons_zero, List.getElem?_cons_succ] at h0 h1 h2
      obtain ⟨a, ha, e0⟩ := str_of h0
      obtain ⟨b, hb, e1⟩ := str_of h1
      obtain ⟨z, e2, -⟩ := DataW.trod_bool Tryd.underlying4 h2
      cases e0
      cases e1
      cases e2
      exact ⟨⟨a, b, z⟩, rfl, ha, hb⟩
theorem chs_of {n : Nat} (hf : DataW.trod enc Tryd.prog W 0 (fun _ => true) true n 22 [v] = some x) : ∃ l, Chs W v l :=
  rows_of Tryd.underlying22 cellsCh (by decide) (fun _ _ _ hl h => change_of hl h) hf
theorem open_chs (hval : Value.okWide Tryd.prog W .any base 22 v) (h : DataW.Trod enc Tryd.prog W 0 (fun _ => true) true 22 v d p) : ∃ l, Chs W v l :=
  let ⟨_, _, hf⟩ := okw_slice Tryd.underlying22 hval h; chs_of hf
end
end Go.Proofs.YtkdmljijgfejpaaDoor


namespace Go.Proofs.YtkdmljijgfejpaaDoor
set_option linter.unusedVariables false
set_option linter.unusedSimpArgs false
open Go.RowKit Kv

theorem kvRight_any (c : Ch) (w : World) (hf : chF c) : Calls Tryd.prog 32 #[.agg #[.string (str c.k), .string (str c.v), .bool c.g]] w fun e w' => e = .returned (.bool (rightC c)) ∧ Ext w w' := by
  have hR : RowKit.Hid (rightC c = (decide (1 ≤ c.k.length) && (decide (c.k.length ≤ 64) && (decide (c.v.length ≤ 300) && (!c.g || c.v.isEmpty))))) := Lib.hid rfl
  obtain ⟨hk, hv⟩ := hf
  unfold fit at hk hv
  have e0 := (Ext.refl w).alloc (.cells #[.string (str c.k), .string (str c.v), .bool c.g] 26)
  have hB := rightC c
  obtain ⟨k, v, g⟩ := c
  dsimp only at *
  have q0 : RowKit.Hid (v.isEmpty = seq v []) := Lib.hid (by
    cases hq : seq v []
    · have := seq_false.1 hq
      cases v with
      | nil => exact absurd rfl this
      | cons _ _ => rfl
    · rw [seq_true.1 hq]; rfl)
  rw [q0.out] at hR
  by_cases h1 : 1 ≤ k.length
  · have i1 : (1 : Int) ≤ (k.length : Int) := by omega
    by_cases h2 : k.length ≤ 64
    · have i2 : (k.length : Int) ≤ 64 := by omega
      by_cases h3 : v.length ≤ 300
      · have i3 : (v.length : Int) ≤ 300 := by omega
        cases g
        · have hX := Lib.hid (hR.out.trans (show _ = true by simp [h1, h2, h3]))
          clear hR h1 h2 h3 q0
          go_enter Tryd.func32, Tryd.ntmps32
          go_wp2
          go_ret
          exact ⟨by rw [hX.out]; rfl, e0⟩
        · have hX := Lib.hid (hR.out.trans (show _ = seq v [] by simp [h1, h2, h3]))
          clear hR h1 h2 h3 q0
          go_enter Tryd.func32, Tryd.ntmps32
          go_wp2
          go_ret
          exact ⟨by rw [hX.out]; rfl, e0⟩
      · have i3 : ¬ (v.length : Int) ≤ 300 := by omega
        have hX := Lib.hid (hR.out.trans (show _ = false by simp [h3]))
        clear hR h1 h2 h3 q0
        go_enter Tryd.func32, Tryd.ntmps32
        go_wp2
        go_ret
        exact ⟨by rw [hX.out]; rfl, e0⟩
    · have i2 : ¬ (k.length : Int) ≤ 64 := by omega
      have hX := Lib.hid (hR.out.trans (show _ = false by simp [h2]))
      clear hR h1 h2 q0
      go_enter Tryd.func32, Tryd.ntmps32
      go_wp2
      go_ret
      exact ⟨by rw [hX.out]; rfl, e0⟩
  · have i1 : ¬ (1 : Int) ≤ (k.length : Int) := by omega
    have hX := Lib.hid (hR.out.trans (show _ = false by simp [h1]))
    clear hR h1 q0
    go_enter Tryd.func32, Tryd.ntmps32
    go_wp2
    go_ret
    exact ⟨by rw [hX.out]; rfl, e0⟩
/-- the bytes from a place on, as the model slices -/
theorem bytes_tail {w : World} {a : Option Addr} {n cap : Nat} {l : List UInt8} (h : Bytes w (.slice a n cap) l) (k : Nat) (hk : k ≤ l.length) : Bytes w (.slice (if cap = k then a else Option.map (fun x => x.add k) a) (n - k) (cap - k)) (l.drop k) := by
  obtain ⟨a', cap', e, h1, h2, h3, h4⟩ := h
  simp only [Value.slice.injEq] at e
  obtain ⟨rfl, rfl, rfl⟩ := e
  by_cases hc : cap = k
  · rw [if_pos hc]
    have : l.length = k := by omega
    rw [List.drop_of_length_le (by omega)]
    exact ⟨a, cap - k, by rw [List.length_nil, this, Nat.sub_self], Nat.zero_le _, by omega, fun h => by rw [hc, Nat.sub_self], fun j hj => by simp at hj⟩
  · rw [if_neg hc]
    refine ⟨_, cap - k, by rw [List.length_drop], by rw [List.length_drop]; omega, by omega, fun h => ?_, fun j hj => ?_⟩
    · cases a with
      | none => have := h3 rfl; omega
      | some x => cases h
    · rw [List.length_drop] at hj
      obtain ⟨g, o, rfl, hc⟩ := h4 (k + j) (by omega)
      refine ⟨g, o + k, by rw [Option.map_some, Addr.add_lit], ?_⟩
      rw [List.getElem_drop, Nat.add_assoc]; exact hc
/-- so many bytes taken off -/
theorem kvTake_any (v : Value) (b : List UInt8) (n : Nat) (w : World) (hb : Bytes w v b) (hn : n ≤ 1000000) :
    Calls Tryd.prog 48 #[v, .int .i64 (n : Int)] w (Ret fun r w' => Ext w w' ∧ ((b.length < n ∧ r = .tuple #[.slice none 0 0, .slice none 0 0, .bool false]) ∨
      (n ≤ b.length ∧ ∃ v1 v2, r = .tuple #[v1, v2, .bool true] ∧ Bytes w v1 (b.take n) ∧ Bytes w v2 (b.drop n) ∧ ∀ j, vblk v2 = some j → vblk v = some j))) := by
  obtain ⟨a, cap, rfl, h1, h2, h3, h4⟩ := hb
  have e0 := Ext.refl w
  by_cases hl : b.length < n
  · have i1 : (b.length : Int) < (n : Int) := by omega
    clear h1 h2 h3 h4
    go_enter Tryd.func48, Tryd.ntmps48
    go_wp2
    go_ret3
    exact Ret.mk ⟨e0, .inl ⟨hl, rfl⟩⟩
  · have i1 : ¬ (b.length : Int) < (n : Int) := by omega
    have i2 : (0 : Int) ≤ (n : Int) := by omega
    have i3 : (n : Int) ≤ (b.length : Int) := by omega
    have i4 : (n : Int) ≤ (cap : Int) := by omega
    have hv1 := Lib.hid (show Bytes w (.slice a n cap) (b.take n) from ⟨a, cap, by rw [List.length_take, Nat.min_eq_left (by omega)], by rw [List.length_take]; omega, h2, h3, fun j hj => by
      rw [List.length_take] at hj
      obtain ⟨g, o, e, hc⟩ := h4 j (by omega)
      exact ⟨g, o, e, by rw [List.getElem_take]; exact hc⟩⟩)
    have hv2 := bytes_tail (show Bytes w (.slice a b.length cap) b from ⟨a, cap, rfl, h1, h2, h3, h4⟩) n (by omega)
    clear h1 h2 h3 h4
    have hnb := Lib.hid (show n ≤ b.length by omega)
    refine gen_post ?_
    intro Q0 hQ0
    by_cases hc : cap = n
    · rw [if_pos hc] at hv2
      subst hc
      rw [Nat.sub_self] at hv2
      have hv2h := Lib.hid hv2
      have hsub := Lib.hid (show ∀ j, vblk (.slice a (b.length - cap) 0) = some j → vblk (.slice a b.length cap) = some j from fun j h => by cases a <;> exact h)
      clear hv2
      go_enter Tryd.func48, Tryd.ntmps48
      go_wp2
      go_region
      all_goals go_wp2
      all_goals go_ret3
      all_goals exact hQ0.out _ _ (Ret.mk ⟨e0.drew, .inr ⟨hnb.out, _, _, rfl, hv1.out, hv2h.out, hsub.out⟩⟩)
    · rw [if_neg hc] at hv2
      have hv2h := Lib.hid hv2
      have hsub := Lib.hid (show ∀ j, vblk (.slice (Option.map (fun x => x.add n) a) (b.length - n) (cap - n)) = some j → vblk (.slice a b.length cap) = some j from fun j h => by
        cases a with
        | none => exact h
        | some x =>
          have hx : (x.add n).block = x.block := by unfold Addr.add; split <;> rfl
          show some x.block = some j
          rw [← hx]; exact h)
      clear hv2
      go_enter Tryd.func48, Tryd.ntmps48
      go_wp2
      go_region
      all_goals go_wp2
      all_goals go_ret3
      all_goals exact hQ0.out _ _ (Ret.mk ⟨e0.drew, .inr ⟨hnb.out, _, _, rfl, hv1.out, hv2h.out, hsub.out⟩⟩)
theorem results_ch3 {fn : Func} {p u u2 : Tmp} (h : fn.results = #[.cell p 26, .tmp u, .tmp u2]) (tmps : Array Value) (w : World) (g : Nat) (cs : Array Value) (hp : tmps.getD p undef = .pointer (some ⟨g, 0, none⟩)) (hg : w.heap[g]? = some (.cells cs 26 (0, 0))) (hs : (Tryd.prog.info? 26).map (·.size) = some cs.size) :
    (results fn tmps).run Tryd.prog w = .ok (.tuple #[.agg cs, tmps.getD u undef, tmps.getD u2 undef]) w := by
  have hr := run_loadVar_row (P := Tryd.prog) w g 26 26 cs (0, 0) _ hg Tryd.underlying26 rfl hs
  simp only [results, h]
  simp only [Array.getD_eq_getD_getElem?] at hp ⊢
  simp [Sem.run_bind, Result.andThen, hp, asAddr, hr]
theorem Ext.setRowK {a w : World} (h : Ext a w) {g : Nat} (hg : a.heap.size ≤ g) (cs : Array Value) : Ext a (w.setRow g cs) :=
  ⟨h.os, h.tape, h.output, by simpa [World.setRow] using h.size, fun k hk => (setRow_other w g k cs (by omega)).trans (h.block k hk)⟩
theorem Bytes.setRowK {w : World} {v : Value} {l : List UInt8} {g : Nat} {old : Array Value} (h : Bytes w v l) (hg : w.heap[g]? = some (.cells old 26 (0, 0))) (cs : Array Value) (hold : ∀ (j : Nat) (x : UInt8), old[j]? ≠ some (.int .u8 (x.toNat : Int)) := by intro j x; match j with | 0 => simp | 1 => simp | 2 => simp | k + 3 => simp) : Bytes (w.setRow g cs) v l := by
  obtain ⟨a, cap, h1, h2, h3, h4, h5⟩ := h
  refine ⟨a, cap, h1, h2, h3, h4, fun j hj => ?_⟩
  obtain ⟨b, o, rfl, hc⟩ := h5 j hj
  refine ⟨b, o, rfl, ?_⟩
  have hne : b ≠ g := by
    rintro rfl
    rw [cell_of_row w b (o + j) old _ _ hg] at hc
    exact hold _ _ hc
  rw [World.cell?_of_block (setRow_other w g b cs hne)]
  exact hc
theorem kvTake_no {v : Value} {b : List UInt8} {n : Nat} {w : World} (hb : Bytes w v b) (hn : n ≤ 1000000) (h : b.length < n) :
    Calls Tryd.prog 48 #[v, .int .i64 (n : Int)] w (Ret fun r w' => Ext w w' ∧ r = .tuple #[.slice none 0 0, .slice none 0 0, .bool false]) :=
  (kvTake_any v b n w hb hn).mono fun e w' ⟨r, h1, h2, h3⟩ => ⟨r, h1, h2, h3.elim (fun h => h.2) fun h3 => by omega⟩
theorem kvTake_yes {v : Value} {b : List UInt8} {n : Nat} {w : World} (hb : Bytes w v b) (hn : n ≤ 1000000) (h : n ≤ b.length) :
    Calls Tryd.prog 48 #[v, .int .i64 (n : Int)] w (Ret fun r w' => Ext w w' ∧ ∃ v1 v2, r = .tuple #[v1, v2, .bool true] ∧ Bytes w' v1 (b.take n) ∧ Bytes w' v2 (b.drop n) ∧ ∀ j, vblk v2 = some j → vblk v = some j) :=
  (kvTake_any v b n w hb hn).mono fun e w' ⟨r, h1, h2, h3⟩ => ⟨r, h1, h2, h3.elim (fun h => by omega) fun ⟨_, v1, v2, h4, h5, h6, h7⟩ => ⟨v1, v2, h4, h5.ext h2, h6.ext h2, h7⟩⟩
/-- an aggregate that is a change -/
def aggC (c : Ch) : Value := .agg #[.string (str c.k), .string (str c.v), .bool c.g]
set_option maxRecDepth 20000 in
set_option maxHeartbeats 4000000 in
theorem kvNext_any (v : Value) (n : UInt8) (r : List UInt8) (w : World) (hb : Bytes w v (n :: r)) (hl : r.length ≤ 100000) :
    Calls Tryd.prog 36 #[v] w (Ret fun x w' => Ext w w' ∧ ((nextC (n :: r) = none ∧ ∃ c v2, x = .tuple #[aggC c, v2, .bool false]) ∨ (∃ c t v2, nextC (n :: r) = some (c, t) ∧ x = .tuple #[aggC c, v2, .bool true] ∧ Bytes w' v2 t ∧ ∀ j, vblk v2 = some j → vblk v = some j))) := by
  refine gen_post ?_
  intro Q0 hQ0
  obtain ⟨a, cap, rfl, hbb⟩ := id hb
  obtain ⟨g, o, rfl⟩ := hb.ad (by simp)
  have hcap : r.length + 1 ≤ cap := by have := hbb.1; simpa using this
  have c0 : w.cell? ⟨g, o, none⟩ = some (.int .u8 (n.toNat : Int)) := by
    have := hb.gt 0 (by simp)
    simpa using this
  have ht := bytes_tail hb 1 (by simp)
  rw [show (n :: r).length = r.length + 1 from rfl] at ht ⊢
  rw [show r.length + 1 - 1 = r.length by omega, show (n :: r).drop 1 = r from rfl] at ht
  clear hbb hb
  have hcons := Lib.hid (next_cons n r)
  have kn : IntKind.i64.wrap (n.toNat : Int) = (n.toNat : Int) := wrap_sm (by have := n.toNat_lt; omega)
  have hnl := n.toNat_lt
  have e0 := Lib.hid ((Ext.refl w).alloc (.cells #[.string (str []), .string (str []), .bool false] 26))
  have hz0 := Lib.hid (heap_alloc_new w (.cells #[.string (str []), .string (str []), .bool false] 26))
  have hth := Lib.hid ht
  clear ht
  go_enter Tryd.func36, Tryd.ntmps36
  go_upto_region 1 with fail
  obtain ⟨W1, hW1⟩ : ∃ W, W = w.alloc (.cells #[.string (str []), .string (str []), .bool false] 26) := ⟨_, rfl⟩
  rw [← hW1]
  rw [← hW1] at e0 hz0
  obtain ⟨B, hB⟩ : ∃ B, B = w.heap.size := ⟨_, rfl⟩
  rw [← hB] at hz0 ⊢
  have hBw := Lib.hid (show w.heap.size ≤ B by omega)
  clear hW1 hB
  have c1 : W1.cell? ⟨g, o, none⟩ = some (.int .u8 (n.toNat : Int)) := e0.out.cell c0
  have hth1 := hth.out.ext e0.out
  have hS := Lib.hid (show ∀ W, Ext W1 W → W.cell? ⟨g, o, none⟩ = some (.int .u8 (n.toNat : Int)) from fun W e => e.cell c1)
  clear c0 c1 hth
  go_cut [5, 0, 6] (fun k b ok wd => Ext W1 wd ∧ ((r.length < n.toNat ∧ ok = .bool false ∧ k = .slice none 0 0 ∧ b = .slice none 0 0) ∨ (n.toNat ≤ r.length ∧ ok = .bool true ∧ Bytes wd k (r.take n.toNat) ∧ Bytes wd b (r.drop n.toNat) ∧ ∀ j, vblk b = some j → j = g)))
  case first =>
    by_cases hc : cap = 1
    · rw [if_pos hc] at hth1
      subst hc
      obtain rfl : r = [] := List.eq_nil_of_length_eq_zero (by omega)
      simp only [List.length_nil, Nat.sub_self, Nat.zero_add] at hth1 ⊢
      rcases Nat.lt_or_ge ([] : List UInt8).length n.toNat with hlt | hle
      rotate_left
      · have hle := Lib.hid hle
        have hT := Lib.hid (fun W (e : Ext W1 W) => kvTake_yes (hth1.ext e) (show n.toNat ≤ 1000000 by omega) hle.out)
        go_region_held3 (fun W => W.cell? ⟨g, o, none⟩ = some (.int .u8 (n.toNat : Int))) ((refine hS.out _ ?_; (repeat (first | exact Ext.refl _ | with_reducible assumption | refine Ext.drew ?_ | refine Ext.alloc ?_ _ | refine Ext.trans ?_ (by assumption))))) ((go_at_call 48; refine (hT.out _ (by (repeat (first | exact Ext.refl _ | with_reducible assumption | refine Ext.drew ?_ | refine Ext.alloc ?_ _ | refine Ext.trans ?_ (by assumption))))).mono ?_; rintro e w2 ⟨x, rfl, e2, v1, v2, rfl, b1, b2, s2⟩))
        all_goals go_wp2
        all_goals go_meet
        all_goals exact ⟨(Ext.refl W1).drew.trans e2, .inr ⟨hle.out, rfl, b1, b2, fun j h => (Option.some.inj (s2 j h)).symm⟩⟩
      · have hlt := Lib.hid hlt
        have hT := Lib.hid (fun W (e : Ext W1 W) => kvTake_no (hth1.ext e) (show n.toNat ≤ 1000000 by omega) hlt.out)
        go_region_held3 (fun W => W.cell? ⟨g, o, none⟩ = some (.int .u8 (n.toNat : Int))) ((refine hS.out _ ?_; (repeat (first | exact Ext.refl _ | with_reducible assumption | refine Ext.drew ?_ | refine Ext.alloc ?_ _ | refine Ext.trans ?_ (by assumption))))) ((go_at_call 48; refine (hT.out _ (by (repeat (first | exact Ext.refl _ | with_reducible assumption | refine Ext.drew ?_ | refine Ext.alloc ?_ _ | refine Ext.trans ?_ (by assumption))))).mono ?_; rintro e w2 ⟨x, rfl, e2, rfl⟩))
        all_goals go_wp2
        all_goals go_meet
        all_goals exact ⟨(Ext.refl W1).drew.trans e2, .inl ⟨hlt.out, rfl, rfl, rfl⟩⟩
    · rw [if_neg hc, Option.map_some, Addr.add_lit] at hth1
      have hc1 : (1 : Int) ≤ (cap : Int) := by omega
      have hc3 : (1 : Int) ≤ (r.length : Int) + 1 := by omega
      have hc4 : (0 : Int) ≤ (r.length : Int) := by omega
      have hc5 : (r.length : Int) + 1 ≤ (cap : Int) := by omega
      rcases Nat.lt_or_ge r.length n.toNat with hlt | hle
      rotate_left
      · have hle := Lib.hid hle
        have hT := Lib.hid (fun W (e : Ext W1 W) => kvTake_yes (hth1.ext e) (show n.toNat ≤ 1000000 by omega) hle.out)
        go_region_held3 (fun W => W.cell? ⟨g, o, none⟩ = some (.int .u8 (n.toNat : Int))) ((refine hS.out _ ?_; (repeat (first | exact Ext.refl _ | with_reducible assumption | refine Ext.drew ?_ | refine Ext.alloc ?_ _ | refine Ext.trans ?_ (by assumption))))) ((go_at_call 48; refine (hT.out _ (by (repeat (first | exact Ext.refl _ | with_reducible assumption | refine Ext.drew ?_ | refine Ext.alloc ?_ _ | refine Ext.trans ?_ (by assumption))))).mono ?_; rintro e w2 ⟨x, rfl, e2, v1, v2, rfl, b1, b2, s2⟩))
        all_goals go_wp2
        all_goals go_meet
        all_goals exact ⟨(Ext.refl W1).drew.trans e2, .inr ⟨hle.out, rfl, b1, b2, fun j h => (Option.some.inj (s2 j h)).symm⟩⟩
      · have hlt := Lib.hid hlt
        have hT := Lib.hid (fun W (e : Ext W1 W) => kvTake_no (hth1.ext e) (show n.toNat ≤ 1000000 by omega) hlt.out)
        go_region_held3 (fun W => W.cell? ⟨g, o, none⟩ = some (.int .u8 (n.toNat : Int))) ((refine hS.out _ ?_; (repeat (first | exact Ext.refl _ | with_reducible assumption | refine Ext.drew ?_ | refine Ext.alloc ?_ _ | refine Ext.trans ?_ (by assumption))))) ((go_at_call 48; refine (hT.out _ (by (repeat (first | exact Ext.refl _ | with_reducible assumption | refine Ext.drew ?_ | refine Ext.alloc ?_ _ | refine Ext.trans ?_ (by assumption))))).mono ?_; rintro e w2 ⟨x, rfl, e2, rfl⟩))
        all_goals go_wp2
        all_goals go_meet
        all_goals exact ⟨(Ext.refl W1).drew.trans e2, .inl ⟨hlt.out, rfl, rfl, rfl⟩⟩
  case rest =>
    obtain ⟨e1, hcase⟩ := hcut
    obtain ⟨W2, rfl⟩ : ∃ W, W = wc := ⟨_, rfl⟩
    have hz2 := e1.heap hz0.out
    have eW2 := Lib.hid (e0.out.trans e1)
    clear hS hth1 e1 hz0 e0
    rcases hcase with ⟨hlt, rfl, rfl, rfl⟩ | ⟨hle, rfl, bk, bt, st⟩
    · have hN := Lib.hid (hcons.out.trans (if_pos hlt))
      go_wp2_with (refine wpList_store_row rfl 26 _ _ rfl B #[.string (str []), .string (str []), .bool false] rfl rfl 26 #[.string (str []), .string (str []), .bool false] hz2 info_ch rfl (by simp [Value.oneCell']) ?_)
      (try simp only [Exit.inBlock, Exit.then])
      refine bodyPost_ret (results_ch3 rfl _ _ B #[.string (str []), .string (str []), .bool false] rfl (setRow_heap W2 B #[.string (str []), .string (str []), .bool false] #[.string (str []), .string (str []), .bool false] _ _ hz2) info_ch) rfl ?_
      exact hQ0.out _ _ (Ret.mk ⟨eW2.out.setRowK hBw.out _, .inl ⟨hN.out, ⟨[], [], false⟩, _, rfl⟩⟩)
    · obtain ⟨K, hK⟩ : ∃ K, K = r.take n.toNat := ⟨_, rfl⟩
      obtain ⟨T, hT⟩ : ∃ T, T = r.drop n.toNat := ⟨_, rfl⟩
      have hc2 := hcons.out
      rw [if_neg (by omega), ← hT, ← hK] at hc2
      rw [← hK] at bk
      rw [← hT] at bt
      have hTl : T.length ≤ 100000 := by rw [hT, List.length_drop]; omega
      clear hK hT hcons hle kn hnl hcap
      by_cases h2 : T.length < 2
      · have hN := Lib.hid (show nextC (n :: r) = none from by
          rw [hc2]
          match T, h2 with
          | [], _ => rfl
          | [_], _ => rfl)
        have hT2 := kvTake_no bt (show 2 ≤ 1000000 by omega) h2
        clear hc2 h2 bk bt
        go_wp2_with (first
          | (go_at_call 48; refine hT2.mono ?_; rintro e w3 ⟨x, rfl, e3, rfl⟩; have hz3 := e3.heap hz2)
          | (refine wpList_store_row rfl 26 _ _ rfl B #[.string (str []), .string (str []), .bool false] rfl rfl 26 #[.string (str []), .string (str []), .bool false] hz3 info_ch rfl (by simp [Value.oneCell']) ?_))
        (try simp only [Exit.inBlock, Exit.then])
        refine bodyPost_ret (results_ch3 rfl _ _ B #[.string (str []), .string (str []), .bool false] rfl (setRow_heap w3 B #[.string (str []), .string (str []), .bool false] #[.string (str []), .string (str []), .bool false] _ _ hz3) info_ch) rfl ?_
        exact hQ0.out _ _ (Ret.mk ⟨(eW2.out.trans e3).setRowK hBw.out _, .inl ⟨hN.out, ⟨[], [], false⟩, _, rfl⟩⟩)
      · obtain ⟨hh, l, u, rfl⟩ : ∃ hh l u, T = hh :: l :: u := by
          match T, h2 with
          | [], h => exact absurd (by simp) h
          | [_], h => exact absurd (by simp) h
          | hh :: l :: u, _ => exact ⟨hh, l, u, rfl⟩
        have hT2 := kvTake_yes bt (show 2 ≤ 1000000 by omega) (by omega)
        have hst := Lib.hid st
        clear st
        have hul : u.length ≤ 100000 := by simp only [List.length_cons] at hTl; omega
        have hbk := Lib.hid bk
        clear h2 bk bt hTl
        go_upto_region 7 with (go_at_call 48; refine hT2.mono ?_; rintro e w3 ⟨x, rfl, e3, v7, v0, rfl, b7, b0, s0⟩; have hz3 := Lib.hid (e3.heap hz2))
        have b7' : Bytes w3 v7 [hh, l] := b7
        have b0' := Lib.hid (show Bytes w3 v0 u from b0)
        have hs0 := Lib.hid (show ∀ j, vblk v0 = some j → j = g from fun j h => hst.out j (s0 j h))
        clear s0 hst
        have eW3 := Lib.hid (eW2.out.trans e3)
        have hbk3 := Lib.hid (hbk.out.ext e3)
        clear b7 b0 hT2 hz2 eW2 hbk e3
        obtain ⟨a7, c7, rfl, -⟩ := id b7'
        obtain ⟨g7, o7, rfl⟩ := b7'.ad (by simp)
        have d0 : w3.cell? ⟨g7, o7, none⟩ = some (.int .u8 (hh.toNat : Int)) := by have := b7'.gt 0 (by simp); simpa using this
        have d1 : w3.cell? ⟨g7, o7 + 1, none⟩ = some (.int .u8 (l.toNat : Int)) := by have := b7'.gt 1 (by simp); simpa using this
        have kb : ∀ c : UInt8, IntKind.i64.wrap (c.toNat : Int) = (c.toNat : Int) := fun c => wrap_sm (by have := c.toNat_lt; omega)
        have kc := wrap64_byte
        have l1 := hh.toNat_lt
        have l2 := l.toNat_lt
        have s6 := wrap_le (z := (hh.toNat : Int) * 256) (by omega) (by omega)
        obtain ⟨S, hS⟩ : ∃ S, S = 256 * hh.toNat + l.toNat := ⟨_, rfl⟩
        have o1 : bits .or .i64 ((hh.toNat : Int) * 256) (l.toNat : Int) = (S : Int) := by
          have := bor hh.toNat l.toNat 8 (by omega) (by omega)
          rw [show (hh.toNat : Int) * 256 = ((hh.toNat * 2 ^ 8 : Nat) : Int) by omega, this, hS]
          omega
        rw [← hS] at hc2
        have hSl : S ≤ 65535 := by omega
        have hc2h := Lib.hid hc2
        clear hc2 hS l1 l2 b7'
        simp only [List.length_cons, List.length_nil, Nat.zero_add, Nat.reduceAdd]
        go_quiet (fail)
        clear d0 d1 s6 o1 kb kc
        have eW4 := Lib.hid (eW3.out.trans (Ext.drewM w3 nq))
        have hz4 := (Ext.drewM w3 nq).heap hz3.out
        have hbk4 := Lib.hid (hbk3.out.ext (Ext.drewM w3 nq))
        have b04 := Lib.hid (b0'.out.ext (Ext.drewM w3 nq))
        have hk4 := conv_bytes hbk4.out
        clear hz3 hbk3 b0' eW3
        generalize w3.drewN nq = W4 at *
        by_cases hS : S = 65535
        · have q1 : ((S : Int) == 65535) = true := by rw [hS]; rfl
          have hN := Lib.hid (show nextC (n :: r) = some (⟨K, [], true⟩, u) from by rw [hc2h.out]; simp only [hS, if_true])
          clear hc2h hS
          go_wp2_with (refine wpList_store_row rfl 26 _ _ rfl B #[.string (str K), .string (str []), .bool true] rfl rfl 26 #[.string (str []), .string (str []), .bool false] hz4 info_ch rfl (by simp [Value.oneCell']) ?_)
          (try simp only [Exit.inBlock, Exit.then])
          refine bodyPost_ret (results_ch3 rfl _ _ B #[.string (str K), .string (str []), .bool true] rfl (setRow_heap W4 B #[.string (str []), .string (str []), .bool false] #[.string (str K), .string (str []), .bool true] _ _ hz4) info_ch) rfl ?_
          exact hQ0.out _ _ (Ret.mk ⟨eW4.out.setRowK hBw.out _, .inr ⟨⟨K, [], true⟩, u, _, hN.out, rfl, b04.out.setRowK hz4 _, fun j h => by rw [hs0.out j h]; rfl⟩⟩)
        · have q1 : ((S : Int) == 65535) = false := by rw [beq_eq_false_iff_ne]; omega
          by_cases hle : u.length < S
          · have hN := Lib.hid (show nextC (n :: r) = none from by rw [hc2h.out]; simp only [hS, if_false, hle, if_true])
            have hT3 := kvTake_no b04.out (show S ≤ 1000000 by omega) hle
            have hkn := fun W => conv_bytes (Bytes.nil W)
            clear hc2h hS hle
            go_wp2_with (first
              | (go_at_call 48; refine hT3.mono ?_; rintro e w5 ⟨x, rfl, e5, rfl⟩; have hz5 := e5.heap hz4; have hk5 := conv_bytes (hbk4.out.ext e5))
              | (refine wpList_store_row rfl 26 _ _ rfl B #[.string (str K), .string (str []), .bool false] rfl rfl 26 #[.string (str []), .string (str []), .bool false] hz5 info_ch rfl (by simp [Value.oneCell']) ?_))
            (try simp only [Exit.inBlock, Exit.then])
            refine bodyPost_ret (results_ch3 rfl _ _ B #[.string (str K), .string (str []), .bool false] rfl (setRow_heap w5 B #[.string (str []), .string (str []), .bool false] #[.string (str K), .string (str []), .bool false] _ _ hz5) info_ch) rfl ?_
            exact hQ0.out _ _ (Ret.mk ⟨(eW4.out.trans e5).setRowK hBw.out _, .inl ⟨hN.out, ⟨K, [], false⟩, _, rfl⟩⟩)
          · have hN := Lib.hid (show nextC (n :: r) = some (⟨K, u.take S, false⟩, u.drop S) from by rw [hc2h.out]; simp only [hS, if_false, hle])
            have hT3 := kvTake_yes b04.out (show S ≤ 1000000 by omega) (by omega)
            clear hc2h hS hle
            go_wp2_with (first
              | (go_at_call 48; refine hT3.mono ?_; rintro e w5 ⟨x, rfl, e5, v9, v0', rfl, b9, b5, s5⟩; have hs5 := Lib.hid s5; clear s5; have hz5 := e5.heap hz4; have hk5 := conv_bytes (hbk4.out.ext e5); have hk9 := conv_bytes b9; have b5h := Lib.hid b5)
              | (refine wpList_store_row rfl 26 _ _ rfl B #[.string (str K), .string (str (u.take S)), .bool false] rfl rfl 26 #[.string (str []), .string (str []), .bool false] hz5 info_ch rfl (by simp [Value.oneCell']) ?_))
            (try simp only [Exit.inBlock, Exit.then])
            refine bodyPost_ret (results_ch3 rfl _ _ B #[.string (str K), .string (str (u.take S)), .bool false] rfl (setRow_heap w5 B #[.string (str []), .string (str []), .bool false] #[.string (str K), .string (str (u.take S)), .bool false] _ _ hz5) info_ch) rfl ?_
            exact hQ0.out _ _ (Ret.mk ⟨(eW4.out.trans e5).setRowK hBw.out _, .inr ⟨⟨K, u.take S, false⟩, u.drop S, _, hN.out, rfl, b5h.out.setRowK hz5 _, fun j h => by rw [hs0.out j (hs5.out j h)]; rfl⟩⟩)
end Go.Proofs.YtkdmljijgfejpaaDoor


namespace Go.Proofs.YtkdmljijgfejpaaDoor
set_option linter.unusedVariables false
set_option linter.unusedSimpArgs false
open Go.RowKit Kv

/-- 'append(s, x...)', x a text -/
theorem wpList_appendTx {ops : Array Oper} {rest : List Oper} {o : Oper} {a : Act} {w : World} {Q : Exit → Act → World → Prop} (hgd : o.guard = none) (s x : Operand)
    (ho : o.op = .call { callee := .builtin .append, args := #[s, x], argTypes := #[23, 9] })
    (base : Nat) (v : Value) (l : List UInt8) (hs : a.eval s = v) (hown : OwnB w base v l) (m : List UInt8) (hx : a.eval x = .string (str m))
    (hsz : l.length + m.length ≤ 140737488355328) (hbase : base ≤ w.heap.size)
    (h : ∀ v' w', OwnB w' base v' (l ++ m) → w.grownBy w' v.ownBlock → wpList Tryd.prog ops Q rest (a.put o.dst v') w') : wpList Tryd.prog ops Q (o :: rest) a w := by
  obtain ⟨i, hi, hz0, hz1, hz2⟩ := info_parts info8
  refine Lib.wpList_append_own_string w hgd s x 23 9 ho base 5 i Tryd.underlying23 Tryd.underlying9 hi hz0 hz1 hz2 v l.length (l.map u8v) hs hown (str m) hx (by rw [str_size]; unfold maxLen; omega) (by rw [str_size]; exact hsz) hbase ?_
  intro v' w' g1 g2 _
  refine h v' w' ?_ g2
  unfold OwnB
  rw [List.length_append, List.map_append]
  rw [str_size] at g1
  exact g1
theorem step_appendTx {ops : Array Oper} {o : Oper} {a : Act} {w : World} {K : Act → World → Prop} {Q : Exit → Act → World → Prop} {E : Prop} (hgd : o.guard = none) (s x : Operand)
    (ho : o.op = .call { callee := .builtin .append, args := #[s, x], argTypes := #[23, 9] })
    (base : Nat) (v : Value) (l : List UInt8) (hs : a.eval s = v) (hown : OwnB w base v l) (m : List UInt8) (hx : a.eval x = .string (str m))
    (hsz : l.length + m.length ≤ 140737488355328) (hbase : base ≤ w.heap.size)
    (h : ∀ v' w', OwnB w' base v' (l ++ m) → w.grownBy w' v.ownBlock → K (a.put o.dst v') w') :
    if Region.wanted o (yielded ops a.tmps) = true then Oper.wp Tryd.prog o a w K Q else E := by
  have hw : Region.wanted o (yielded ops a.tmps) = true := by simp [Region.wanted, hgd]
  rw [if_pos hw]
  obtain ⟨i, hi, hz0, hz1, hz2⟩ := info_parts info8
  obtain ⟨v', w', hr, g1, g2, -⟩ := Lib.run_append_own_string (P := Tryd.prog) w base 23 9 o.type 5 i Tryd.underlying23 Tryd.underlying9 hi hz0 hz1 hz2 v l.length (l.map u8v) hown (str m) (by rw [str_size]; unfold maxLen; omega) (by rw [str_size]; exact hsz) hbase
  unfold Oper.wp execOp
  simp only [ho, resolve, invoke, builtin, Sem.run_bind, Sem.run_pure, Result.andThen_ok, List.map_toArray, List.map_cons, List.map_nil, hs, hx, hr]
  refine h v' w' ?_ g2
  unfold OwnB
  rw [List.length_append, List.map_append]
  rw [str_size] at g1
  exact g1
set_option maxRecDepth 20000 in
set_option maxHeartbeats 2000000 in
theorem kvOne_any (c : Ch) (w : World) (hc : rightC c = true) : Calls Tryd.prog 33 #[aggC c] w (Ret fun v w' => OwnB w' w.heap.size v (oneC c) ∧ Ext w w') := by
  obtain ⟨h1, h2, h3, h4⟩ := right_parts hc
  have hO : RowKit.Hid (oneC c = [UInt8.ofNat c.k.length] ++ c.k ++ sz2 c ++ c.v) := Lib.hid rfl
  unfold aggC
  have e0 := Lib.hid ((Ext.refl w).alloc (.cells #[.string (str c.k), .string (str c.v), .bool c.g] 26))
  have hb0 := Lib.hid (heap_alloc_new w (.cells #[.string (str c.k), .string (str c.v), .bool c.g] 26))
  have kk : IntKind.u8.wrap (c.k.length : Int) = (c.k.length : Int) := by rw [IntKind.wrap_u8]; omega
  -- the size, and its two bytes
  obtain ⟨S, A, B, hS, hA, hB, hz, hAl, hBl⟩ : ∃ S A B : Nat, (if c.g then 65535 else c.v.length) = S ∧ A = S / 256 ∧ B = S % 256 ∧ sz2 c = [UInt8.ofNat A, UInt8.ofNat B] ∧ A < 256 ∧ B < 256 := by
    unfold sz2
    cases hg : c.g
    · exact ⟨c.v.length, _, _, rfl, rfl, rfl, rfl, by omega, by omega⟩
    · exact ⟨65535, _, _, rfl, rfl, rfl, by rfl, by omega, by omega⟩
  have hSl : S < 65536 := by rw [← hS]; split <;> omega
  have hAB := Lib.hid (show S / 256 = A ∧ S % 256 = B from ⟨hA.symm, hB.symm⟩)
  have hzh := Lib.hid hz
  have hSh := Lib.hid hS
  clear hA hB hz hS h4
  obtain ⟨k, v, g⟩ := c
  dsimp only at *
  go_enter Tryd.func33, Tryd.ntmps33
  go_upto_if 9 with fail
  obtain ⟨W1, hW1⟩ : ∃ W, W = w.alloc (.cells #[.string (str k), .string (str v), .bool g] 26) := ⟨_, rfl⟩
  rw [← hW1] at e0 hb0 ⊢
  obtain ⟨B0, hB0⟩ : ∃ B, B = w.heap.size := ⟨_, rfl⟩
  rw [← hB0] at hb0 ⊢
  clear hW1 hB0
  have hS := Lib.hid (show ∀ W, Ext W1 W → (W.cell? ⟨B0, 0, none⟩ = some (.string (str k)) ∧ W.cell? ⟨B0, 1, none⟩ = some (.string (str v))) from fun W e => ⟨cell_at (e.heap hb0.out) 0 rfl, cell_at (e.heap hb0.out) 1 rfl⟩)
  go_cut [3] (fun n wd => n = .int .i64 (S : Int) ∧ wd = W1)
  case first =>
    have := hSh.out
    cases g
    · go_wp2
      go_meet
      exact ⟨by rw [← this]; rfl, rfl⟩
    · go_wp2
      go_meet
      exact ⟨by rw [← this]; rfl, rfl⟩
  case rest =>
    obtain ⟨rfl, hwc⟩ := hcut
    obtain rfl : W1 = wc := hwc.symm
    obtain ⟨c0, c1⟩ := hS.out _ (Ext.refl W1)
    obtain ⟨c0a, c1a⟩ := hS.out _ ((Ext.refl W1).alloc (.cells #[.int .u8 (k.length : Int)] 5))
    go_upto_region 5 with (at_builtin; refine wpList_appendTx rfl (.tmp 14) (.tmp 16) rfl W1.heap.size _ [UInt8.ofNat k.length] rfl (OwnB.lit rfl (by simp [u8v, UInt8.toNat_ofNat', Nat.mod_eq_of_lt (show k.length < 256 by omega)]) rfl (by decide) (Nat.le_refl _)) k rfl (by simp; omega) ((Ext.refl W1).alloc _).size ?_; intro v2 w2 o2 g2)
    have e2 := Lib.hid (((Ext.refl W1).alloc (.cells #[.int .u8 (k.length : Int)] 5)).grown g2 fun j hj => by cases hj; exact Nat.le_refl _)
    have o2h := Lib.hid o2
    obtain ⟨a2, cp2, rfl, -⟩ := id o2.bytes
    have hS2 := Lib.hid (show ∀ W, Ext W1 W → W.cell? ⟨B0, 1, none⟩ = some (.string (str v)) from fun W e => (hS.out _ e).2)
    have e2o := e2.out
    have c2 := hS2.out _ e2o
    have wA : IntKind.u8.wrap ((S : Int) / 256) = (A : Int) := by rw [IntKind.wrap_u8]; have := hAB.out; omega
    have wB : IntKind.u8.wrap (S : Int) = (B : Int) := by rw [IntKind.wrap_u8]; have := hAB.out; omega
    have hAl' := Lib.hid hAl
    have hBl' := Lib.hid hBl
    have hww := Ext.refl w2.drew
    clear o2 g2 c0 c1 c0a c1a hAl hBl
    go_region_held3 (fun W => W.cell? ⟨B0, 1, none⟩ = some (.string (str v))) ((refine hS2.out _ ?_; (repeat (first | exact Ext.refl _ | with_reducible assumption | refine Ext.drew ?_ | refine Ext.alloc ?_ _ | refine Ext.trans ?_ (by assumption)))))
      (first
        | (refine step_appendB rfl (.tmp 18) (.tmp 24) rfl W1.heap.size (.slice a2 (k.length + 1) cp2) ([UInt8.ofNat k.length] ++ k) rfl (o2h.out.ext ((Ext.refl w2).drew.alloc _)) (.slice (some ⟨w2.heap.size, 0, none⟩) 2 2) [UInt8.ofNat A, UInt8.ofNat B] rfl (Bytes.lit (w := w2.drew) (C := #[.int .u8 (A : Int), .int .u8 (B : Int)]) (e := 5) rfl (by simp [u8v, UInt8.toNat_ofNat', Nat.mod_eq_of_lt hAl'.out, Nat.mod_eq_of_lt hBl'.out]) rfl (Nat.le_refl _) (show 2 ≤ maxLen by decide)) (by simp; omega) (Nat.le_trans e2o.size ((Ext.refl w2).drew.alloc _).size) ?_; intro v3 w3 o3 g3; have e3 : Ext W1 w3 := (e2o.drew.alloc _).grown g3 (fun j hj => o2h.out.lt j hj))
        | (refine step_appendTx rfl (.tmp 25) (.tmp 27) rfl W1.heap.size v3 ([UInt8.ofNat k.length] ++ k ++ [UInt8.ofNat A, UInt8.ofNat B]) rfl o3 v rfl (by simp; omega) e3.size ?_; intro v4 w4 o4 g4; have e4 : Ext W1 w4 := e3.grown g4 (fun j hj => o3.lt j hj)))
    all_goals go_wp2
    all_goals go_ret
    all_goals exact Ret.mk ⟨by rw [hO.out, hzh.out]; exact o4.down e0.out.size, e0.out.trans e4⟩
end Go.Proofs.YtkdmljijgfejpaaDoor


namespace Go.Proofs.YtkdmljijgfejpaaDoor
set_option linter.unusedVariables false
set_option linter.unusedSimpArgs false
open Go.RowKit Kv

theorem OwnB.none (w : World) (base : Nat) : OwnB w base (.slice .none 0 0) [] := World.ownsRow_nil w base _ 1
/-! ### changes' bytes -/
theorem encB_take {l : List Ch} {k : Nat} (hk : k < l.length) : encB (l.take (k + 1)) = encB (l.take k) ++ oneC l[k] := by
  rw [List.take_add_one, List.getElem?_eq_getElem hk, encB_append]
  show _ ++ (oneC l[k] ++ []) = _
  rw [List.append_nil]
theorem encB_len (l : List Ch) (h : l.all rightC = true) : (encB l).length ≤ 400 * l.length := by
  induction l with
  | nil => exact Nat.le_refl _
  | cons c l ih =>
    rw [List.all_cons, Bool.and_eq_true] at h
    obtain ⟨h1, h2, h3, h4⟩ := right_parts h.1
    have := one_length c
    have := ih h.2
    show (oneC c ++ encB l).length ≤ _
    rw [List.length_append, List.length_cons]; omega
theorem all_take {l : List Ch} {k : Nat} (hk : k < l.length) (h : (l.take k).all rightC = true) (hc : rightC l[k] = true) : (l.take (k + 1)).all rightC = true := by
  rw [List.take_add_one, List.getElem?_eq_getElem hk, List.all_append, h]
  simp [hc]
theorem chc_list (x : Ch) : chc x = [.string (str x.k), .string (str x.v), .bool x.g] := rfl
set_option maxRecDepth 20000 in
set_option maxHeartbeats 4000000 in
theorem kvEncode_any (v : Value) (l : List Ch) (w : World) (h : Chs w v l) (hl : l.length ≤ 10000) :
    Calls Tryd.prog 9 #[v] w (Ret fun r w' => ∃ u, r = .tuple #[u, .int .i64 (encE l)] ∧ OwnB w' w.heap.size u (encO l) ∧ Ext w w') := by
  refine gen_post ?_
  intro Q0 hQ0
  obtain ⟨a, cap, rfl, hlm, hget⟩ := h.shape
  have hgh := Lib.hid hget
  clear h hget
  have e0 := Ext.refl w
  go_enter Tryd.func9, Tryd.ntmps9
  go_wp2
  go_loopw [4, 9] (fun out i wr => ∃ k : Nat, k ≤ l.length ∧ i = .int .i64 (k : Int) ∧ RowKit.Hid (OwnB wr w.heap.size out (encB (l.take k))) ∧ RowKit.Hid ((l.take k).all rightC = true) ∧ Ext w wr) (fun _ i _ => l.length - (intOf i).toNat)
  case atStart => exact ⟨0, Nat.zero_le _, rfl, Lib.hid (OwnB.none w w.heap.size), Lib.hid rfl, e0⟩
  case round =>
    obtain ⟨k, hk, rfl, ho, hal, ek⟩ := hrel
    by_cases hlt : k < l.length
    · obtain ⟨g, o, rfl, hr, hf⟩ := hgh.out k l[k] (List.getElem?_eq_getElem hlt)
      have hki : (k : Int) < (l.length : Int) := by omega
      have hw : IntKind.i64.wrap ((k : Int) + 1) = (k : Int) + 1 := by rw [IntKind.wrap_i64]; omega
      have hnx := Lib.hid (encB_take hlt)
      have hal2 := Lib.hid (fun h => all_take hlt hal.out h)
      have hbad := Lib.hid (fun h => encE_bad (List.getElem_mem hlt) h)
      have hol := Lib.hid (encB_len _ hal.out)
      rw [List.length_take, Nat.min_eq_left (by omega)] at hol
      have hrw : wr.rangeAt g (o + k * 3) [.string (str l[k].k), .string (str l[k].v), .bool l[k].g] := fun j u hu => ek.cell (hr j u hu)
      generalize l[k] = x at *
      generalize encB (l.take k) = acc at *
      clear hr
      have eB := Lib.hid ((Ext.refl wr).alloc (.cells #[.string (str x.k), .string (str x.v), .bool x.g] 26))
      have hbx := Lib.hid (show ∀ W, Ext (wr.alloc (.cells #[.string (str x.k), .string (str x.v), .bool x.g] 26)) W → W.rangeAt wr.heap.size 0 [.string (str x.k), .string (str x.v), .bool x.g] from fun W e j u hu => by
        rw [cell_of_row _ _ _ _ _ _ (e.heap (heap_alloc_new wr _)), Nat.zero_add, ← hu]; simp)
      have hR := fun W => kvRight_any x W hf
      cases hrc : rightC x
      · rw [hrc] at hR
        have hE := Lib.hid (hbad.out hrc)
        clear hnx hal2 hbad hol hrc
        go_wp2_with (first
          | (refine wpList_load_mid rfl 26 _ rfl g (o + k * 3) rfl [.string (str x.k), .string (str x.v), .bool x.g] _ hrw Tryd.underlying26 rfl info_ch ?_)
          | (refine wpList_store_new wr rfl 26 _ _ rfl #[.string (str x.k), .string (str x.v), .bool x.g] _ rfl rfl rfl 3 info_ch rfl rfl (by simp [Value.oneCell']) ?_)
          | (refine wpList_load_mid rfl 26 _ rfl wr.heap.size 0 rfl [.string (str x.k), .string (str x.v), .bool x.g] _ (hbx.out _ (Ext.refl _)) Tryd.underlying26 rfl info_ch ?_)
          | (go_at_call 32; refine (hR _).mono ?_; rintro e w2 ⟨rfl, e2⟩))
        refine hQ0.out _ _ (Ret.mk ⟨_, by rw [hE.out]; rfl, ?_, (ek.trans eB.out).trans e2⟩)
        unfold encO
        rw [hE.out, if_neg (by decide)]
        exact OwnB.none _ _
      · rw [hrc] at hR
        have hal3 := Lib.hid (hal2.out hrc)
        have hOne := Lib.hid (fun W => kvOne_any x W hrc)
        have h1l := Lib.hid (show (oneC x).length ≤ 400 from by obtain ⟨q1, q2, q3, q4⟩ := right_parts hrc; have := one_length x; omega)
        clear hal2 hbad hrc hal
        obtain ⟨ao, co, rfl, -⟩ := id ho.out.bytes
        go_wp2_with (first
          | (refine wpList_load_mid rfl 26 _ rfl g (o + k * 3) rfl [.string (str x.k), .string (str x.v), .bool x.g] _ hrw Tryd.underlying26 rfl info_ch ?_)
          | (refine wpList_store_new wr rfl 26 _ _ rfl #[.string (str x.k), .string (str x.v), .bool x.g] _ rfl rfl rfl 3 info_ch rfl rfl (by simp [Value.oneCell']) ?_)
          | (refine wpList_load_mid rfl 26 _ rfl wr.heap.size 0 rfl [.string (str x.k), .string (str x.v), .bool x.g] _ (hbx.out _ (Ext.refl _)) Tryd.underlying26 rfl info_ch ?_)
          | (refine wpList_load_mid rfl 26 _ rfl wr.heap.size 0 rfl [.string (str x.k), .string (str x.v), .bool x.g] _ (hbx.out _ e2) Tryd.underlying26 rfl info_ch ?_)
          | (go_at_call 32; refine (hR _).mono ?_; rintro e w2 ⟨rfl, e2⟩)
          | (go_at_call 33; refine (hOne.out _).mono ?_; rintro e w3 ⟨v3, rfl, o3, e3⟩)
          | (at_builtin; refine wpList_appendB rfl (.tmp 16) (.tmp 18) rfl w.heap.size (.slice ao acc.length co) acc rfl (((ho.out.ext eB.out).ext e2).ext e3) v3 (oneC x) rfl o3.bytes (by have := hol.out; have := h1l.out; omega) (((ek.trans eB.out).trans e2).trans e3).size ?_; intro v4 w4 o4 g4))
        have e4 := (((ek.trans eB.out).trans e2).trans e3).grown g4 (fun j hj => ho.out.lt j hj)
        go_roundw
        case rel => exact ⟨k + 1, by omega, by go_num, Lib.hid (by rw [hnx.out]; exact o4), hal3, e4⟩
        case measure => simp [intOf]; omega
    · obtain rfl : k = l.length := by omega
      rw [List.take_length] at ho hal
      have hol := Lib.hid (encB_len _ hal.out)
      obtain ⟨ao, co, rfl, -⟩ := id ho.out.bytes
      by_cases h4 : (encB l).length ≤ 4000
      · have hE := Lib.hid (show encE l = 0 from encE_zero.2 ⟨hal.out, h4⟩)
        have i4 : ¬ (4000 : Int) < ((encB l).length : Int) := by omega
        have hOO := Lib.hid (show encO l = encB l from by unfold encO; rw [if_pos hE.out])
        clear h4
        generalize encB l = acc at *
        go_wp2
        exact hQ0.out _ _ (Ret.mk ⟨_, by rw [hE.out], by rw [hOO.out]; exact ho.out, ek⟩)
      · have hE := Lib.hid (show encE l = 2 from by unfold encE; rw [hal.out, if_neg h4]; rfl)
        have i4 : (4000 : Int) < ((encB l).length : Int) := by omega
        clear h4
        generalize encB l = acc at *
        go_wp2
        refine hQ0.out _ _ (Ret.mk ⟨_, by rw [hE.out]; rfl, ?_, ek⟩)
        unfold encO
        rw [hE.out, if_neg (by decide)]
        exact OwnB.none _ _
end Go.Proofs.YtkdmljijgfejpaaDoor


namespace Go.Proofs.YtkdmljijgfejpaaDoor
set_option linter.unusedVariables false
set_option linter.unusedSimpArgs false
open Go.RowKit Kv

theorem wpList_load_rowG {P : Program} {ops : Array Oper} {rest : List Oper} {o : Oper} {a : Act} {w : World} {Q : Exit → Act → World → Prop} (hw : Region.wanted o (yielded ops a.tmps) = true) (ty : TypeId) (x : Operand) (ho : o.op = .load ty x)
    (g : Nat) (hx : a.eval x = .pointer (some ⟨g, 0, none⟩)) (t : TypeId) (cs : Array Value) (fr : Nat × Nat) (d : TypeDesc) (hg : w.heap[g]? = some (.cells cs t fr))
    (hu : P.underlying ty = some d) (hd : (match d with | .struct _ | .array _ _ => true | _ => false) = true) (hi : (P.info? ty).map (·.size) = some cs.size)
    (h : wpList P ops Q rest (a.put o.dst (.agg cs)) w) : wpList P ops Q (o :: rest) a w :=
  wpList_step fun _ hK => by
    rw [if_pos hw]
    exact wp_load_row ty x ho g hx t cs fr d hg hu hd hi (hK _ _ h)
def decE (b : List UInt8) : Int := if (decL b).isSome then 0 else 8
def decO (b : List UInt8) : List Ch := (decL b).getD []
theorem decE_long {b : List UInt8} (h : 4000 < b.length) : decE b = 8 ∧ decO b = [] := by
  unfold decE decO decL
  rw [if_pos h]; exact ⟨rfl, rfl⟩
theorem decE_none {b : List UInt8} (h : decA b = none) : decE b = 8 ∧ decO b = [] := by
  unfold decE decO decL
  by_cases hl : 4000 < b.length
  · rw [if_pos hl]; exact ⟨rfl, rfl⟩
  · rw [if_neg hl, h]; exact ⟨rfl, rfl⟩
theorem decE_some {b : List UInt8} {l : List Ch} (hl : ¬ 4000 < b.length) (h : decA b = some l) : decE b = 0 ∧ decO b = l := by
  unfold decE decO decL
  rw [if_neg hl, h]; exact ⟨rfl, rfl⟩
theorem kvNext_no {v : Value} {n : UInt8} {r : List UInt8} {w : World} (hb : Bytes w v (n :: r)) (hl : r.length ≤ 100000) (h : nextC (n :: r) = none) :
    Calls Tryd.prog 36 #[v] w (Ret fun x w' => Ext w w' ∧ ∃ (c : Ch) (v2 : Value), x = .tuple #[.agg #[.string (str c.k), .string (str c.v), .bool c.g], v2, .bool false]) :=
  (kvNext_any v n r w hb hl).mono fun e w' ⟨x, h1, h2, h3⟩ => ⟨x, h1, h2, h3.elim (fun h3 => h3.2) fun ⟨c, t, v2, h4, _⟩ => by rw [h] at h4; cases h4⟩
theorem kvNext_yes {v : Value} {n : UInt8} {r t : List UInt8} {c : Ch} {w : World} (hb : Bytes w v (n :: r)) (hl : r.length ≤ 100000) (h : nextC (n :: r) = some (c, t)) :
    Calls Tryd.prog 36 #[v] w (Ret fun x w' => Ext w w' ∧ ∃ v2, x = .tuple #[.agg #[.string (str c.k), .string (str c.v), .bool c.g], v2, .bool true] ∧ Bytes w' v2 t ∧ ∀ j, vblk v2 = some j → vblk v = some j) :=
  (kvNext_any v n r w hb hl).mono fun e w' ⟨x, h1, h2, h3⟩ => ⟨x, h1, h2, h3.elim (fun h3 => by rw [h] at h3; cases h3.1) fun ⟨c', t', v2, h4, h5, h6, h7⟩ => by rw [h] at h4; cases h4; exact ⟨v2, h5, h6, h7⟩⟩
theorem next_fit {b t : List UInt8} {c : Ch} (h : nextC b = some (c, t)) (hl : b.length ≤ 100000) : chF c ∧ t.length < b.length := by
  have h1 := next_less h
  have h2 := congrArg List.length (one_next h)
  rw [List.length_append, one_length] at h2
  exact ⟨⟨by unfold fit; omega, by unfold fit; omega⟩, h1⟩
def slenV : Value → Nat
  | .slice _ n _ => n
  | _ => 0
set_option maxRecDepth 20000 in
set_option maxHeartbeats 4000000 in
theorem kvDecode_any (v : Value) (b : List UInt8) (w : World) (hb : Bytes w v b) :
    Calls Tryd.prog 11 #[v] w (Ret fun r w' => ∃ u, r = .tuple #[u, .int .i64 (decE b)] ∧ OwnC w' (fun k => w.heap.size ≤ k) u (decO b) ∧ Ext w w') := by
  refine gen_post ?_
  intro Q0 hQ0
  obtain ⟨a, cap, rfl, hbb⟩ := id hb
  have e0 := Ext.refl w
  by_cases hlong : 4000 < b.length
  · have i1 : (4000 : Int) < (b.length : Int) := by omega
    have hE := Lib.hid (decE_long hlong)
    clear hbb hb hlong
    go_enter Tryd.func11, Tryd.ntmps11
    go_wp2
    exact hQ0.out _ _ (Ret.mk ⟨_, by rw [hE.out.1]; rfl, by rw [hE.out.2]; exact OwnRs.nil _ _, e0⟩)
  have i1 : ¬ (4000 : Int) < (b.length : Int) := by omega
  have hlong := Lib.hid hlong
  have hbh := Lib.hid hb
  clear hbb hb
  go_enter Tryd.func11, Tryd.ntmps11
  go_wp2
  go_loopw [0, 4] (fun vb out wr => ∃ (rest : List UInt8) (pre : List Ch), RowKit.Hid (decA b = (decA rest).map (pre ++ ·)) ∧ (∃ a' c', vb = .slice a' rest.length c') ∧ RowKit.Hid (Bytes wr vb rest ∧ ∀ j, vblk vb = some j → rest ≠ [] → j < w.heap.size) ∧ RowKit.Hid (OwnC wr (fun k => w.heap.size ≤ k) out pre) ∧ pre.length + rest.length ≤ 4000 ∧ Ext w wr) (fun vb _ _ => slenV vb)
  case atStart => exact ⟨b, [], Lib.hid (by cases decA b <;> rfl), ⟨_, _, rfl⟩, Lib.hid ⟨hbh.out, fun j h1 h2 => hbh.out.blk_lt h2 j h1⟩, Lib.hid (OwnRs.nil _ _), by have := hlong.out; simp; omega, e0⟩
  case round =>
    obtain ⟨rest, pre, hd, ⟨a', c', rfl⟩, hbr, ho, hlen, ek⟩ := hrel
    match rest with
    | [] =>
      have hE := Lib.hid (decE_some hlong.out (l := pre) (by rw [hd.out, decA_nil]; simp))
      simp only [List.length_nil]
      go_wp2
      exact hQ0.out _ _ (Ret.mk ⟨_, by rw [hE.out.1]; rfl, by rw [hE.out.2]; exact ho.out, ek⟩)
    | n :: r =>
      simp only [List.length_cons] at hlen ⊢
      have i2 : (0 : Int) < (r.length : Int) + 1 := by omega
      have hrl : r.length ≤ 100000 := by omega
      cases hnx : nextC (n :: r) with
      | none =>
        have hN := kvNext_no hbr.out.1 hrl hnx
        have hE := Lib.hid (decE_none (b := b) (by rw [hd.out, decA_none (by simp) hnx]; rfl))
        clear hd hnx
        go_wp2_with (first
          | (go_at_call 36; refine hN.mono ?_; rintro e w2 ⟨x, rfl, e2, c, v2, rfl⟩)
          | (refine wpList_store_new w2 rfl 26 _ _ rfl #[.string (str c.k), .string (str c.v), .bool c.g] _ rfl rfl rfl 3 info_ch rfl rfl (by simp [Value.oneCell']) ?_))
        exact hQ0.out _ _ (Ret.mk ⟨_, by rw [hE.out.1]; rfl, by rw [hE.out.2]; exact OwnRs.nil _ _, (ek.trans e2).alloc _⟩)
      | some p =>
        obtain ⟨c, t⟩ := p
        have hN := kvNext_yes hbr.out.1 hrl hnx
        obtain ⟨hcf, htl⟩ := next_fit hnx (by simp only [List.length_cons]; omega)
        simp only [List.length_cons] at htl
        have hR := Lib.hid (fun W => kvRight_any c W hcf)
        cases hrc : rightC c
        · have hE := Lib.hid (decE_none (b := b) (by rw [hd.out, decA_bad hnx hrc]; rfl))
          rw [hrc] at hR
          clear hd hnx hrc
          go_wp2_with (first
            | (go_at_call 36; refine hN.mono ?_; rintro e w2 ⟨x, rfl, e2, v2, rfl, b2, s2⟩; have hbx := heap_alloc_new w2 (.cells #[.string (str c.k), .string (str c.v), .bool c.g] 26))
            | (refine wpList_store_new w2 rfl 26 _ _ rfl #[.string (str c.k), .string (str c.v), .bool c.g] _ rfl rfl rfl 3 info_ch rfl rfl (by simp [Value.oneCell']) ?_)
            | (refine wpList_load_rowG (by rfl) 26 _ rfl w2.heap.size rfl 26 #[.string (str c.k), .string (str c.v), .bool c.g] (0, 0) _ hbx Tryd.underlying26 rfl info_ch ?_)
            | (go_at_call 32; refine (hR.out _).mono ?_; rintro e w3 ⟨rfl, e3⟩))
          exact hQ0.out _ _ (Ret.mk ⟨_, by rw [hE.out.1]; rfl, by rw [hE.out.2]; exact OwnRs.nil _ _, ((ek.trans e2).alloc _).trans e3⟩)
        · have hd2 := Lib.hid (show decA b = (decA t).map ((pre ++ [c]) ++ ·) from by
            rw [hd.out, decA_step hnx hrc]
            cases decA t <;> simp)
          rw [hrc] at hR
          obtain ⟨ao, co, rfl⟩ := ho.out.shapeN
          clear hd hnx hrc
          go_wp2_with (first
            | (go_at_call 36; refine hN.mono ?_; rintro e w2 ⟨x, rfl, e2, v2, rfl, b2, s2⟩; have hbx := heap_alloc_new w2 (.cells #[.string (str c.k), .string (str c.v), .bool c.g] 26))
            | (refine wpList_store_new w2 rfl 26 _ _ rfl #[.string (str c.k), .string (str c.v), .bool c.g] _ rfl rfl rfl 3 info_ch rfl rfl (by simp [Value.oneCell']) ?_)
            | (refine wpList_load_rowG (by rfl) 26 _ rfl w2.heap.size rfl 26 #[.string (str c.k), .string (str c.v), .bool c.g] (0, 0) _ hbx Tryd.underlying26 rfl info_ch ?_)
            | (go_at_call 32; refine (hR.out _).mono ?_; rintro e w3 ⟨rfl, e3⟩; have hbx3 := e3.heap hbx)
            | (refine wpList_load_rowG (by rfl) 26 _ rfl w2.heap.size rfl 26 #[.string (str c.k), .string (str c.v), .bool c.g] (0, 0) _ hbx3 Tryd.underlying26 rfl info_ch ?_)
            | (at_builtin; refine wpList_appendR Tryd.underlying22 info_chz rfl (by decide) (by decide) chc_len chc_one (by decide) rfl (.tmp 27) (.tmp 29) rfl (fun k => w.heap.size ≤ k) (.slice ao pre.length co) pre rfl ((((ho.out.ext e2).ext ((Ext.refl w2).alloc _)).ext e3).ext ((Ext.refl w3).alloc _)) (.slice (some ⟨w3.heap.size, 0, none⟩) 1 1) [c] rfl (Rs.one rfl rfl rfl hcf) (by simp; omega) ?_; intro v4 w4 o4 g4))
          have e3' := ((ek.trans e2).alloc (.cells #[.string (str c.k), .string (str c.v), .bool c.g] 26)).trans e3
          have e4' := (e3'.alloc (.cells #[.string (str c.k), .string (str c.v), .bool c.g] 26))
          have e4 := e4'.chg g4 fun _ h => h
          obtain ⟨a2, c2, rfl, -⟩ := id b2
          have b4 : Bytes w4 (.slice a2 t.length c2) t := ((((b2.ext ((Ext.refl w2).alloc _)).ext e3).ext ((Ext.refl w3).alloc _))).chgV g4 fun j h1 h2 h3 => by
            have := hbr.out.2 j (s2 j h1) (by simp)
            omega
          go_roundw
          case rel => exact ⟨t, pre ++ [c], hd2, ⟨a2, c2, rfl⟩, Lib.hid ⟨b4, fun j h1 _ => hbr.out.2 j (s2 j h1) (by simp)⟩, Lib.hid (o4.mono fun j h => h.elim id fun h => Nat.le_trans e4'.size h), by simp; omega, e4⟩
          case measure => simp [slenV]; omega
end Go.Proofs.YtkdmljijgfejpaaDoor


