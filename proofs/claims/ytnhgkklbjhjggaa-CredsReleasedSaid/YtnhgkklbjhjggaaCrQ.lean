/- CredsReleased, walked. -/
import Derived.Test.YtnhgkklbjhjggaaCrP
namespace Go.Proofs.Ytnhgkklbjhjggaa
open Go.RowKit Cr

namespace Cr
theorem attrs_append (l : List Us) (name : List UInt8) (a b : List (List UInt8)) : attrs l name (a ++ b) = attrs l name a ++ attrs l name b := by unfold attrs; rw [List.flatMap_append]
theorem attrs_nil (l : List Us) (name : List UInt8) : attrs l name [] = [] := rfl
theorem attrs_mem {l : List Us} {name : List UInt8} {a : List (List UInt8)} {x : Pr} (h : x ∈ attrs l name a) : (∃ t ∈ a, seq t x.n = true) ∧ ∃ (j : Nat) (u : Us), l[j]? = some u ∧ at_ name 0 l = (j : Int) ∧ x ∈ u.a := by
  unfold attrs at h
  obtain ⟨t, ht, hx⟩ := List.mem_flatMap.1 h
  obtain ⟨h1, h2⟩ := List.mem_filter.1 hx
  refine ⟨⟨t, ht, by rw [seq_comm]; exact h2⟩, ?_⟩
  rcases at_who name l 0 with ⟨h3, -⟩ | ⟨j, u, h3, h4, h5⟩
  · unfold userA at h1; rw [h3] at h1; simp at h1
  · unfold userA at h1; rw [h3] at h1
    exact ⟨j, u, h4, by rw [h5]; simp, h1⟩
theorem userA_le {l : List Us} (h : ∀ x ∈ l, x.a.length ≤ 1000) (name : List UInt8) : (userA l name).length ≤ 1000 := by
  unfold userA
  cases hw : who l name with
  | none => simp
  | some u => exact h u (who_in hw).1
def any_ {α : Type} (p : α → Bool) (l : List α) (k : Nat) : Bool := (l.take k).any p
theorem any_step {α : Type} {p : α → Bool} {l : List α} {k : Nat} {x : α} (h : l[k]? = some x) : any_ p l (k + 1) = (any_ p l k || p x) := by
  unfold any_; rw [List.take_add_one, h, List.any_append]; simp
theorem any_all {α : Type} {p : α → Bool} {l : List α} {x : α} (h : x ∈ l) (hp : p x = true) : any_ p l l.length = true := by
  unfold any_; rw [List.take_length, List.any_eq_true]; exact ⟨x, h, hp⟩
end Cr
theorem info_str : (Try.prog.info? 9).map (fun i => (i.zero, i.size, i.bytes)) = some (some (.string ⟨#[]⟩), 1, 16) := by kernel_rfl
theorem wpList_appendPG {ops : Array Oper} {rest : List Oper} {o : Oper} {a : Act} {w : World} {Q : Exit → Act → World → Prop} (hw : Region.wanted o (yielded ops a.tmps) = true) (s x : Operand)
    (ho : o.op = .call { callee := .builtin .append, args := #[s, x], argTypes := #[35, 35] })
    (F : Nat → Prop) (v : Value) (l : List Pr) (hs : a.eval s = v) (hown : OwnP w F v l) (u : Value) (m : List Pr) (hx : a.eval x = u) (hb : Prs w u m) (hlen : l.length + m.length ≤ 1048576)
    (h : ∀ v' w', OwnP w' (fun k => F k ∨ w.heap.size ≤ k) v' (l ++ m) → Chg F w w' → wpList Try.prog ops Q rest (a.put o.dst v') w') : wpList Try.prog ops Q (o :: rest) a w :=
  wpList_step fun K hK => by
    rw [if_pos hw]
    obtain ⟨v', w', hr, h2, h3⟩ := run_appendP o.type w F v l hown u m hb hlen
    unfold Oper.wp execOp
    simp only [ho, resolve, invoke, builtin, Sem.run_bind, Sem.run_pure, Result.andThen_ok, List.map_toArray, List.map_cons, List.map_nil, hs, hx, hr]
    exact hK _ _ (h v' w' h2 h3)
set_option maxRecDepth 20000 in
set_option maxHeartbeats 1000000 in
theorem credsReleased_any (v : Value) (l : List Us) (name : List UInt8) (va : Value) (A : List (List UInt8)) (vb : Value) (B : List (List UInt8)) (w : World) (h : Uss w v l) (hn : fit name) (hA : Txs w va A) (hB : Txs w vb B) :
    Calls Try.prog 5 #[v, .string (str name), va, vb] w fun e w' => e = .returned (.bool true) ∧ Ext w w' := by
  have e0 := Ext.refl w
  have hh := Lib.hid h
  have hAh := Lib.hid hA
  have hBh := Lib.hid hB
  obtain ⟨a, cap, rfl, hlen, hget⟩ := Rw.shape h
  have hgh := Lib.hid hget
  obtain ⟨⟨aA, capA, rfl, hleA, hcmA, -, hgetA⟩, -⟩ := hA
  obtain ⟨⟨aB, capB, rfl, hleB, hcmB, -, hgetB⟩, -⟩ := hB
  have hgA := Lib.hid hgetA
  have hAl : (A.length : Int) ≤ 9223372036854775807 := by unfold maxLen at hcmA; omega
  have hBl : (B.length : Int) ≤ 9223372036854775807 := by unfold maxLen at hcmB; omega
  clear h hget hgetA hgetB hcmA hcmB hleA hleB
  go_enter Try.func5, Try.ntmps5
  go_upto_region 3 with (first
    | (go_at_call 8; refine (awake_any _).mono ?_; rintro e W1 ⟨rfl, e1⟩)
    | (go_at_call 9; refine (few_any _ l _ (hh.out.ext e1)).mono ?_; rintro e W2 ⟨rfl, rfl⟩))
  have e1h := Lib.hid e1
  clear e0 e1
  cases hf : fewB l
  · go_wp2
    go_ret
    exact ⟨rfl, e1h.out⟩
  have hfe := Lib.hid (few_all hf)
  clear hf
  rcases Nat.lt_or_ge 10 A.length with hA8 | hA8
  · have : (10 : Int) < (A.length : Int) := by omega
    go_wp2
    go_ret
    exact ⟨rfl, e1h.out⟩
  rcases Nat.lt_or_ge 10 B.length with hB8 | hB8
  · have : (10 : Int) < (B.length : Int) := by omega
    have : ¬ (10 : Int) < (A.length : Int) := by omega
    go_wp2
    go_ret
    exact ⟨rfl, e1h.out⟩
  have g2 : ¬ (10 : Int) < (A.length : Int) := by omega
  have g3 : ¬ (10 : Int) < (B.length : Int) := by omega
  have hsm := Lib.hid (fun x hx => Nat.le_trans (hfe.out.2 x hx).1 (by decide) : ∀ x ∈ l, x.a.length ≤ 1000)
  have hbad : ∀ z : Int, (wrong l).1 = z → z ≠ 0 → Calls Try.prog 11 #[.slice a l.length cap] W1 (Ret fun r w' => r = .tuple #[.pointer none, .int .i64 z, .int .i64 ((wrong l).2 : Int)] ∧ Ext W1 w') := fun z hz h0 => by
    have := new_bad _ l W1 (hh.out.ext e1h.out) hsm.out (by rw [hz]; exact h0)
    rwa [hz] at this
  rcases wrong_kinds l with hk | hk | hk | hk
  rotate_left
  iterate 3
    have hb := hbad _ hk (by decide)
    clear hbad hk
    go_wp2_with (go_at_call 11; refine hb.mono ?_; rintro e W4 ⟨r, rfl, rfl, e4⟩)
    go_ret
    exact ⟨rfl, e1h.out.trans e4⟩
  clear hbad
  have hg := new_good _ l W1 (hh.out.ext e1h.out) hsm.out hk
  clear hk
  go_upto_region 8 with (go_at_call 11; refine hg.mono ?_; rintro e W4 ⟨r, rfl, G, rfl, e4, ht⟩)
  have e04 := Lib.hid (e1h.out.trans e4)
  have hth := Lib.hid ht
  clear hg e4 e1h ht
  have KA := Lib.hid (fun W (e : Ext W4 W) => attrs_any _ _ l name A W (hth.out.ext e) hsm.out (hAh.out.ext (e04.out.trans e)) (by omega))
  have KB := Lib.hid (fun W (e : Ext W4 W) => attrs_any _ _ l name B W (hth.out.ext e) hsm.out (hBh.out.ext (e04.out.trans e)) (by omega))
  go_upto_region 10 with (first
    | (go_at_call 16; (with_reducible refine (KA.out _ (Ext.refl _)).mono ?_); rintro e W5 ⟨u, rfl, ho5, ⟨a5, cap5, rfl⟩, e5⟩)
    | (go_at_call 16; (with_reducible refine (KB.out _ e5).mono ?_); rintro e W6 ⟨u6, rfl, ho6, ⟨a6, cap6, rfl⟩, e6⟩))
  have hx := Lib.hid (ho5.prs.ext e6)
  have hy := Lib.hid ho6.prs
  have e46 := Lib.hid (e5.trans e6)
  have hfAB : ∀ x ∈ A ++ B, fit x := fun x hx => by
    rw [List.mem_append] at hx
    exact hx.elim (hAh.out.2 x) (hBh.out.2 x)
  clear ho5 ho6 e5 e6 KA KB
  go_upto_region 11 with (first
    | (refine wpList_appendO Try.underlying23 info_str rfl (fun _ => rfl) rfl _ _ rfl (fun k => W6.heap.size ≤ k) _ [] rfl (OwnO.of_own (Own.empty rfl (Nat.le_refl _))) _ A rfl ((hAh.out.ext ((e04.out.trans e46.out).alloc _)).1) (by simp only [List.length_nil]; omega) (by simp only [List.length_nil]; omega) ?_; intro v7 W7 o7 c7; obtain ⟨a7, cap7, rfl⟩ := o7.shape)
    | (refine wpList_appendO Try.underlying23 info_str rfl (fun _ => rfl) rfl _ _ rfl (fun k => W6.heap.size ≤ k) _ ([] ++ A) rfl (o7.mono fun k hk => hk.elim id fun h => Nat.le_trans ((Ext.refl _).alloc _).size h) _ B rfl ((hBh.out.ext ((e04.out.trans e46.out).trans (((Ext.refl W6).alloc _).chg c7 fun i hi => hi))).1) (by rw [List.nil_append]; omega) (by rw [List.nil_append]; omega) ?_; intro v8 W8 o8 c8; obtain ⟨a8, cap8, rfl⟩ := o8.shape)
    | (go_at_call 16; refine (attrs_any _ (.slice a8 (A.length + B.length) cap8) l name (A ++ B) _ (hth.out.ext (e46.out.trans ((((Ext.refl W6).alloc _).chg c7 fun i hi => hi).chg c8 fun i hi => hi))) hsm.out ⟨by have := o8.sl; rwa [List.nil_append, List.length_append] at this, hfAB⟩ (by rw [List.length_append]; omega)).mono ?_; rintro e W9 ⟨u9, rfl, ho9, ⟨a9, cap9, rfl⟩, e9⟩))
  have e69 := Lib.hid (((((Ext.refl W6).alloc _).chg c7 fun i hi => hi).chg c8 fun i hi => hi).trans e9)
  have hz := Lib.hid ho9.prs
  clear o7 c7 o8 c8 ho9 e9 hfAB
  have hX := hx.out
  obtain ⟨X, hXe⟩ : ∃ X, X = attrs l name A := ⟨_, rfl⟩
  rw [← hXe] at hX hx ⊢
  have hmem := Lib.hid (fun x (h : x ∈ X) => attrs_mem (by rw [← hXe]; exact h) : ∀ x ∈ X, (∃ t ∈ A, seq t x.n = true) ∧ ∃ (j : Nat) (u : Us), l[j]? = some u ∧ at_ name 0 l = (j : Int) ∧ x ∈ u.a)
  have hXh := Lib.hid hXe
  have hXl : (X.length : Int) ≤ 9223372036854775807 := by
    obtain ⟨_, _, _, h, _⟩ := Rw.shape hX; exact h
  obtain ⟨_, _, hq, -, hgetX⟩ := Rw.shape hX
  cases hq
  have hgX := Lib.hid hgetX
  have hAt := Lib.hid (fun W (e : Ext w W) => refAt_any _ l name W (hh.out.ext e))
  clear hX hgetX hXe
  go_wp2
  go_loopw [17] (fun i wr => ∃ k : Nat, k ≤ X.length ∧ i = .int .i64 (k : Int) ∧ Ext W9 wr) (fun i _ => X.length - (intOf i).toNat)
  case atStart => exact ⟨0, Nat.zero_le _, rfl, Ext.refl _⟩
  case round =>
    obtain ⟨k, hkl, rfl, ek⟩ := hrel
    have ewr := Lib.hid ((((e04.out.trans e46.out).trans e69.out).trans ek))
    by_cases hlt : k < X.length
    · obtain ⟨x, hxk⟩ := some_at hlt
      obtain ⟨g5, o5, cs, rfl, hr5, rfl, hf5⟩ := hgX.out k x hxk
      have hki : (k : Int) < (X.length : Int) := by omega
      have hw : IntKind.i64.wrap ((k : Int) + 1) = (k : Int) + 1 := by rw [IntKind.wrap_i64]; omega
      obtain ⟨⟨t, htA, htx⟩, j, u, hlj, hat, hxu⟩ := hmem.out x (List.mem_of_getElem? hxk)
      have R5 := Lib.hid (fun W (e : Ext wr W) => (fun i u hu => ((e69.out.trans ek).trans e).cell (hr5 i u hu) : W.rangeAt g5 (o5 + k * 2) (prc x)))
      have hfin1 := Lib.hid (any_all (p := fun t => seq t x.n) htA htx)
      have hfin2 := Lib.hid (any_all (p := fun y => pq y x) hxu (pq_self x))
      clear hr5 hxk
      go_wp2
      obtain ⟨Wr, hWr⟩ : ∃ W, W = wr := ⟨_, rfl⟩
      rw [← hWr] at ek ewr R5 ⊢
      clear hWr
      go_loopw [18, 19] (fun rl i wm => ∃ m : Nat, m ≤ A.length ∧ rl = .bool (any_ (fun t => seq t x.n) A m) ∧ i = .int .i64 (m : Int) ∧ Ext Wr wm) (fun _ i _ => A.length - (intOf i).toNat)
      case atStart => exact ⟨0, Nat.zero_le _, rfl, rfl, Ext.refl _⟩
      case round =>
        obtain ⟨m, hml, rfl, rfl, em⟩ := hrel
        by_cases hmlt : m < A.length
        · obtain ⟨t2, ht2⟩ := some_at hmlt
          obtain ⟨g1, o1, rfl, hc1⟩ := hgA.out m t2 ht2
          have hmi : (m : Int) < (A.length : Int) := by omega
          have hw2 : IntKind.i64.wrap ((m : Int) + 1) = (m : Int) + 1 := by rw [IntKind.wrap_i64]; omega
          have c1 := (ewr.out.trans em).cell hc1
          obtain ⟨b0, -⟩ := pr_cells (R5.out _ em)
          have hst := Lib.hid (any_step (p := fun t => seq t x.n) ht2)
          unfold sv at c1
          clear hc1 ht2
          cases hb : any_ (fun t => seq t x.n) A m
          · rw [hb] at hst
            go_wp2
            go_region
            go_wp2
            go_roundw
            case rel => exact ⟨m + 1, by omega, by rw [hst.out]; rfl, by go_num, em.drew⟩
            case measure => simp [intOf]; omega
          · rw [hb] at hst
            go_wp2
            go_region
            go_wp2
            go_roundw
            case rel => exact ⟨m + 1, by omega, by rw [hst.out]; rfl, by go_num, em.drew⟩
            case measure => simp [intOf]; omega
        · obtain rfl : m = A.length := by omega
          have hf1 := hfin1.out
          clear hfin1
          go_upto_region 21 with (go_at_call 18; refine (hAt.out _ (ewr.out.trans em)).mono ?_; rintro e wa ⟨rfl, rfl⟩)
          have hji : (j : Int) < (l.length : Int) := by
            have := (List.getElem?_eq_some_iff.1 hlj).1
            omega
          obtain ⟨g, o, cs, rfl, hru, sl, rfl, hp, -⟩ := hgh.out j u hlj
          obtain ⟨-, -, c2⟩ := us_cells hru
          obtain ⟨a2, cap2, rfl, hlen2, hget2⟩ := Rw.shape hp
          have hgh2 := Lib.hid hget2
          have ewq := Lib.hid (ewr.out.trans em)
          have R6 := Lib.hid (fun W (e : Ext wr W) => R5.out W (em.trans e))
          have ekq := Lib.hid (ek.trans em)
          obtain ⟨Wq, hWq⟩ : ∃ W, W = wr := ⟨_, rfl⟩
          rw [← hWq] at ewq R6 ekq ⊢
          clear hget2 hru hp hWq em ewr R5 ek hf1
          go_wp2
          go_loopw [21, 22] (fun ow i wm => ∃ m : Nat, m ≤ u.a.length ∧ ow = .bool (any_ (fun y => pq y x) u.a m) ∧ i = .int .i64 (m : Int) ∧ Ext Wq wm) (fun _ i _ => u.a.length - (intOf i).toNat)
          case atStart => exact ⟨0, Nat.zero_le _, rfl, rfl, Ext.refl _⟩
          case round =>
            obtain ⟨m, hml, rfl, rfl, em⟩ := hrel
            have d2 := (ewq.out.trans em).cell c2
            by_cases hmlt : m < u.a.length
            · obtain ⟨y, hy⟩ := some_at hmlt
              obtain ⟨g2, o2, cs2, rfl, hr2, rfl, -⟩ := hgh2.out m y hy
              have hmi : (m : Int) < (u.a.length : Int) := by omega
              have hw2 : IntKind.i64.wrap ((m : Int) + 1) = (m : Int) + 1 := by rw [IntKind.wrap_i64]; omega
              obtain ⟨b0, b1⟩ := pr_cells (R6.out _ em)
              obtain ⟨y0, y1⟩ := pr_cells (fun i v hv => (ewq.out.trans em).cell (hr2 i v hv) : wr.rangeAt g2 (o2 + m * 2) (prc y))
              have hst := Lib.hid (any_step (p := fun y => pq y x) hy)
              have hq := pair_eql y x
              clear hr2 hy
              cases hb : any_ (fun y => pq y x) u.a m
              · rw [hb] at hst
                go_wp2
                go_region
                go_wp2
                go_roundw
                case rel => exact ⟨m + 1, by omega, by rw [hst.out]; rfl, by go_num, em.drew⟩
                case measure => simp [intOf]; omega
              · rw [hb] at hst
                go_wp2
                go_region
                go_wp2
                go_roundw
                case rel => exact ⟨m + 1, by omega, by rw [hst.out]; rfl, by go_num, em.drew⟩
                case measure => simp [intOf]; omega
            · obtain rfl : m = u.a.length := by omega
              have hf2 := hfin2.out
              clear hfin2
              go_wp2
              go_roundw
              case rel => exact ⟨k + 1, by omega, by go_num, ekq.out.trans em⟩
              case measure => simp [intOf]; omega
    · obtain rfl : k = X.length := by omega
      have hLx : X.length ≤ 20000 := by
        rw [hXh.out]
        have h1 := attrs_len l name A
        have h2 := userA_le hsm.out name
        have h3 : A.length * (userA l name).length ≤ 10 * 1000 := Nat.mul_le_mul hA8 h2
        omega
      have hLy : (attrs l name B).length ≤ 20000 := by
        have h1 := attrs_len l name B
        have h2 := userA_le hsm.out name
        have h3 : B.length * (userA l name).length ≤ 10 * 1000 := Nat.mul_le_mul hB8 h2
        omega
      have hzz := Lib.hid (show Prs wr (.slice a9 (attrs l name (A ++ B)).length cap9) (X ++ attrs l name B) from by
        have := hz.out.ext ek
        rw [attrs_append] at this ⊢
        rw [hXh.out]; exact this)
      clear hmem hgX hfe hAt hz hgA
      have e6r := Lib.hid (e69.out.trans ek)
      have ewrh := Lib.hid ((e04.out.trans e46.out).trans (e69.out.trans ek))
      have e4r := Lib.hid (e46.out.trans (e69.out.trans ek))
      clear ek ewr
      go_wp2_with (first
        | (refine wpList_appendPG (by rfl) _ _ rfl (fun k => wr.heap.size ≤ k) _ [] rfl (OwnP.empty rfl (Nat.le_refl _)) _ X rfl (hx.out.ext (e6r.out.alloc _)) (by simp only [List.length_nil]; omega) ?_; intro v1 w1 o1 c1; obtain ⟨a1, cap1, rfl, -⟩ := o1.shape)
        | (refine wpList_appendPG (by rfl) _ _ rfl (fun k => wr.heap.size ≤ k) _ ([] ++ X) rfl (o1.mono fun k hk => hk.elim id fun h => Nat.le_trans ((Ext.refl _).alloc _).size h) _ (attrs l name B) rfl (hy.out.ext (e6r.out.trans (((Ext.refl wr).alloc _).chg c1 fun i hi => hi))) (by rw [List.nil_append]; omega) ?_; intro v2 w2 o2 c2; obtain ⟨a2, cap2, rfl, -⟩ := o2.shape)
        | (go_at_call 15; refine (pairs_same _ _ (X ++ attrs l name B) _ (hzz.out.ext ((((Ext.refl wr).alloc _).chg c1 fun i hi => hi).chg c2 fun i hi => hi)) (by have := o2.prs; rw [List.nil_append] at this; simpa only [List.length_append] using this)).mono ?_; rintro e w3 ⟨rfl, e3⟩)
        | (go_at_call 16; refine (attrs_any _ _ l name [] _ (hth.out.ext (e4r.out.trans (((((Ext.refl wr).alloc _).chg c1 fun i hi => hi).chg c2 fun i hi => hi).trans e3))) hsm.out ⟨Sl.nil _, fun x hx => by simp at hx⟩ (by simp)).mono ?_; rintro e w4 ⟨u4, rfl, -, ⟨a4, cap4, rfl⟩, e4⟩))
      go_ret
      exact ⟨rfl, (ewrh.out.trans (((((Ext.refl wr).alloc _).chg c1 fun i hi => hi).chg c2 fun i hi => hi).trans e3)).trans e4⟩
end Go.Proofs.Ytnhgkklbjhjggaa
