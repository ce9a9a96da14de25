/- Pairs that the call owns, and appends onto them; slices.Clone of pairs. -/
import Derived.Test.YtnhgkklbjhjggaaCrE
import Derived.Test.YtnhgkklbjhjggaaOwn
import Derived.Laws.Cover3
namespace Go.Proofs.Ytnhgkklbjhjggaa
open Go.RowKit Cr

theorem flat_len {α β : Type} {k : Nat} {f : α → List β} (hf : ∀ x, (f x).length = k) : ∀ l : List α, (l.flatMap f).length = l.length * k
  | [] => by simp
  | x :: r => by rw [List.flatMap_cons, List.length_append, hf, flat_len hf r, List.length_cons, Nat.add_mul]; omega
theorem flat_get {α β : Type} {k : Nat} {f : α → List β} (hf : ∀ x, (f x).length = k) : ∀ (l : List α) (q r : Nat) (x : α) (u : β), l[q]? = some x → (f x)[r]? = some u → (l.flatMap f)[q * k + r]? = some u
  | [], q, r, x, u, h, _ => by simp at h
  | y :: l, 0, r, x, u, h, hu => by
    simp only [List.getElem?_cons_zero, Option.some.injEq] at h
    subst h
    have := (List.getElem?_eq_some_iff.1 hu).1
    rw [List.flatMap_cons, Nat.zero_mul, Nat.zero_add, List.getElem?_append_left this, hu]
  | y :: l, q + 1, r, x, u, h, hu => by
    rw [List.getElem?_cons_succ] at h
    rw [List.flatMap_cons, List.getElem?_append_right (by rw [hf, Nat.add_mul]; omega), hf, show (q + 1) * k + r - k = q * k + r by rw [Nat.add_mul]; omega]
    exact flat_get hf l q r x u h hu
theorem flat_at {α β : Type} {k : Nat} {f : α → List β} (hf : ∀ x, (f x).length = k) (hk : 0 < k) {l : List α} {j : Nat} {u : β} (h : (l.flatMap f)[j]? = some u) : ∃ x, l[j / k]? = some x ∧ (f x)[j % k]? = some u := by
  have hj := (List.getElem?_eq_some_iff.1 h).1
  rw [flat_len hf] at hj
  have hq : j / k < l.length := Nat.div_lt_of_lt_mul (by rw [Nat.mul_comm]; exact hj)
  obtain ⟨x, hx⟩ := some_at hq
  have hr : j % k < (f x).length := by rw [hf]; exact Nat.mod_lt _ hk
  refine ⟨x, hx, ?_⟩
  have h2 := flat_get hf l (j / k) (j % k) x _ hx (List.getElem?_eq_getElem hr)
  rw [show j / k * k + j % k = j by rw [Nat.mul_comm]; exact Nat.div_add_mod j k, h] at h2
  rw [List.getElem?_eq_getElem hr, ← Option.some.inj h2]
theorem prc_len (x : Pr) : (prc x).length = 2 := rfl
theorem info_pairZ : (Try.prog.info? 42).map (fun i => (i.zero, i.size, i.bytes)) = some (some (.agg #[.string ⟨#[]⟩, .string ⟨#[]⟩]), 2, 32) := by kernel_rfl
/-- pairs in blocks of F, which the call owns -/
def OwnP (w : World) (F : Nat → Prop) (v : Value) (l : List Pr) : Prop := OwnF 42 2 w F v l.length (l.flatMap prc) ∧ ∀ x ∈ l, prF x
theorem OwnP.ext {w w' : World} {F : Nat → Prop} {v : Value} {l : List Pr} (h : OwnP w F v l) (e : Ext w w') : OwnP w' F v l := ⟨h.1.ext e, h.2⟩
theorem OwnP.mono {w : World} {F G : Nat → Prop} {v : Value} {l : List Pr} (h : OwnP w F v l) (k : ∀ j, F j → G j) : OwnP w G v l := ⟨⟨h.1.1, fun j hj => k j (h.1.2 j hj)⟩, h.2⟩
theorem OwnP.nil (w : World) (F : Nat → Prop) : OwnP w F (.slice none 0 0) [] := ⟨⟨World.ownsRow_nil w _ _ 2, fun k hk => by simp [Value.ownBlock] at hk⟩, fun x h => by simp at h⟩
theorem OwnP.prs {w : World} {F : Nat → Prop} {v : Value} {l : List Pr} (h : OwnP w F v l) : Prs w v l := by
  obtain ⟨⟨⟨h1, h⟩, h2⟩, hf⟩ := h
  rcases h with ⟨rfl, hn⟩ | ⟨g, cap, cur, rfl, hb, hh, hn, hm, hs, ht⟩
  · obtain rfl := List.eq_nil_of_length_eq_zero hn
    exact Prs.nil w
  · refine ⟨_, cap, rfl, hn, hm, fun h => by simp at h, fun j x hj => ⟨g, 0, prc x, rfl, rfl, fun i u hu => ?_, rfl, hf x (List.mem_of_getElem? hj)⟩⟩
    have hi := (List.getElem?_eq_some_iff.1 hu).1
    rw [prc_len] at hi
    have hjl := (List.getElem?_eq_some_iff.1 hj).1
    have := flat_get prc_len l j i x u hj hu
    rw [← ht, List.getElem?_take, if_pos (by omega)] at this
    rw [cell_of_row w g _ cur _ _ hh, ← Array.getElem?_toList, Nat.zero_add]
    exact this
theorem OwnP.shape {w : World} {F : Nat → Prop} {v : Value} {l : List Pr} (h : OwnP w F v l) : ∃ a cap, v = .slice a l.length cap ∧ (∀ k, v.ownBlock = some k → F k) := by
  obtain ⟨⟨⟨h1, h⟩, h2⟩, hf⟩ := h
  rcases h with ⟨rfl, hn⟩ | ⟨g, cap, cur, rfl, hb, hh, hn, hm, hs, ht⟩
  · exact ⟨none, 0, by rw [hn], fun k hk => by simp [Value.ownBlock] at hk⟩
  · exact ⟨_, cap, rfl, h2⟩
theorem OwnP.empty {w : World} {F : Nat → Prop} {g : Nat} (hg : g = w.heap.size) (hF : F w.heap.size) : OwnP (w.alloc (.cells #[] 42)) F (.slice (some ⟨g, 0, none⟩) 0 0) [] := by
  subst hg
  refine ⟨⟨World.ownsRow_made w #[] 0 (Nat.zero_le _) (by simp [maxLen]) rfl, fun k hk => ?_⟩, fun x h => by simp at h⟩
  simp [Value.ownBlock] at hk
  subst hk; exact hF
/-- 'append(s, x...)', s pairs of the call's own, x any pairs -/
theorem run_appendP (ty : TypeId) (w : World) (F : Nat → Prop) (v : Value) (l : List Pr) (hown : OwnP w F v l) (u : Value) (m : List Pr) (hu : Prs w u m) (hlen : l.length + m.length ≤ 1048576) :
    ∃ v' w', (Builtin.append_ #[35, 35] ty #[v, u]).run Try.prog w = .ok v' w' ∧ OwnP w' (fun k => F k ∨ w.heap.size ≤ k) v' (l ++ m) ∧ Chg F w w' := by
  obtain ⟨a, cap, rfl, h2, h3, h4, h5⟩ := hu
  have hfit : ∀ x ∈ l ++ m, prF x := fun x hx => by
    rcases List.mem_append.1 hx with h | h
    · exact hown.2 x h
    · obtain ⟨j, hj⟩ := List.getElem?_of_mem h
      obtain ⟨g, o, cs, -, -, -, -, k⟩ := h5 j x hj
      exact k
  cases a with
  | none =>
    have hc := h4 rfl
    subst hc
    obtain rfl : m = [] := List.eq_nil_of_length_eq_zero (by omega)
    obtain ⟨i, hi, hz0, hz1, hz2⟩ := info_parts info_pairZ
    refine ⟨v, w, ?_, by rw [List.append_nil]; exact hown.mono fun _ => Or.inl, Chg.refl _ _⟩
    exact run_append_owned_none (P := Try.prog) w 0 35 ty 42 i 2 Try.underlying35 hi v _ _ hown.1.1
  | some ad =>
    obtain ⟨v', w', hr, k1, k2⟩ := run_appendF (P := Try.prog) (E := 42) (T := 35) Try.underlying35 info_pairZ (by rfl) (by decide) ty w F v l.length (l.flatMap prc) hown.1 ad m.length cap (m.flatMap prc) (flat_len prc_len m)
      (fun j y hy => by
        obtain ⟨x, hx, hy2⟩ := flat_at prc_len (by decide) hy
        obtain ⟨g, o, cs, e, -, hr, rfl, -⟩ := h5 _ x hx
        cases e
        have := hr _ y hy2
        rwa [Nat.add_assoc, show j / 2 * 2 + j % 2 = j by omega, ← Addr.add_lit] at this)
      (fun y hy => by
        obtain ⟨x, -, hx⟩ := List.mem_flatMap.1 hy
        simp [prc] at hx
        rcases hx with rfl | rfl <;> rfl) (by unfold maxLen; omega) (by omega)
    refine ⟨v', w', hr, ⟨by rw [List.length_append, List.flatMap_append]; exact k1, hfit⟩, k2⟩
theorem wpList_appendP {ops : Array Oper} {rest : List Oper} {o : Oper} {a : Act} {w : World} {Q : Exit → Act → World → Prop} (hgd : o.guard = none) (s x : Operand)
    (ho : o.op = .call { callee := .builtin .append, args := #[s, x], argTypes := #[35, 35] })
    (F : Nat → Prop) (v : Value) (l : List Pr) (hs : a.eval s = v) (hown : OwnP w F v l) (u : Value) (m : List Pr) (hx : a.eval x = u) (hb : Prs w u m) (hlen : l.length + m.length ≤ 1048576)
    (h : ∀ v' w', OwnP w' (fun k => F k ∨ w.heap.size ≤ k) v' (l ++ m) → Chg F w w' → wpList Try.prog ops Q rest (a.put o.dst v') w') : wpList Try.prog ops Q (o :: rest) a w := by
  refine wpList_plain hgd fun K hK => ?_
  obtain ⟨v', w', hr, h2, h3⟩ := run_appendP o.type w F v l hown u m hb hlen
  unfold Oper.wp execOp
  simp only [ho, resolve, invoke, builtin, Sem.run_bind, Sem.run_pure, Result.andThen_ok, List.map_toArray, List.map_cons, List.map_nil, hs, hx, hr]
  exact hK _ _ (h v' w' h2 h3)
/-- one pair in a block that was just laid -/
theorem Prs.one {w : World} {C : Array Value} {fr : Nat × Nat} {g : Nat} {x : Pr} (hg : g = w.heap.size) (hC : C = #[.string (str x.n), .string (str x.v)]) (hf : prF x) : Prs (w.alloc (.cells C 42 fr)) (.slice (some ⟨g, 0, none⟩) 1 1) [x] := by
  subst hg hC
  refine ⟨_, 1, rfl, by simp, by simp [maxLen], fun h => by simp at h, fun j y hj => ?_⟩
  obtain rfl : j = 0 := by
    have := (List.getElem?_eq_some_iff.1 hj).1
    simp at this; omega
  simp only [List.getElem?_cons_zero, Option.some.injEq] at hj
  subst hj
  refine ⟨w.heap.size, 0, prc x, rfl, rfl, fun i u hu => ?_, rfl, hf⟩
  rw [cell_of_row _ _ _ _ _ _ (heap_alloc_new w _)]
  simp only [Nat.zero_mul, Nat.zero_add]
  simpa [prc] using hu
theorem nil_eql (W : World) (a : Option Addr) (n c : Nat) : (binOp .eql 35 (.slice a n c) (.slice none 0 0)).run Try.prog W = .ok (.bool a.isNone) W := by
  simp only [binOp]
  simp [run_equal_slice_nil W 35 42 a n c Try.underlying35]
theorem clone_any (v : Value) (l : List Pr) (w : World) (h : Prs w v l) (hl : l.length ≤ 1000) :
    Calls Try.prog 23 #[v] w (Ret fun u w' => Prs w' u l ∧ (∃ a cap, u = .slice a l.length cap) ∧ Ext w w') := by
  have hp := h
  have e0 := Ext.refl w
  have hq := nil_eql
  obtain ⟨a, cap, rfl, h2, h3, h4, h5⟩ := h
  cases a with
  | none =>
    have hc := h4 rfl
    subst hc
    obtain rfl : l = [] := List.eq_nil_of_length_eq_zero (by omega)
    go_enter Try.func23, Try.ntmps23
    go_wp2
    go_ret
    exact Ret.mk ⟨Prs.nil w, ⟨_, _, rfl⟩, e0⟩
  | some ad =>
    have hpp := Lib.hid hp
    have heh := Lib.hid (e0.alloc (.cells #[] 42))
    have hown := Lib.hid (OwnP.empty (w := w) (F := fun k => w.heap.size ≤ k) rfl (Nat.le_refl _))
    clear hp h5 e0 h2 h3
    go_enter Try.func23, Try.ntmps23
    go_wp2_with (refine wpList_appendP rfl _ _ rfl (fun k => w.heap.size ≤ k) _ [] rfl hown.out _ l rfl (hpp.out.ext heh.out) (by simp; omega) ?_; intro v' w' g1 g2; obtain ⟨a', cap', rfl, -⟩ := g1.shape)
    go_ret
    exact Ret.mk ⟨by simpa using g1.prs, ⟨_, _, rfl⟩, heh.out.chg g2 fun _ h => h⟩
end Go.Proofs.Ytnhgkklbjhjggaa
