/- CredsTurned, walked. -/
import Derived.Test.YtnhgkklbjhjggaaCrP
import Derived.Test.YtnhgkklbjhjggaaCrU
namespace Go.Proofs.Ytnhgkklbjhjggaa
open Go.RowKit Cr

namespace Cr
theorem wr_ok_iff : ∀ (l : List Us) (s : List (List UInt8)) (i : Nat), wr s i l = (0, 0) ↔ (l = [] ∨ i + l.length ≤ 16) ∧ (∀ x ∈ l, rightU x = true) ∧ (∀ x ∈ l, x.n ∉ s) ∧ (names l).Nodup
  | [], s, i => by simp [wr, names]
  | u :: r, s, i => by
    have ih := wr_ok_iff r (s ++ [u.n]) (i + 1)
    unfold wr
    by_cases h1 : 16 ≤ i
    · rw [if_pos h1]
      constructor
      · intro h; simp at h
      · rintro ⟨h, -⟩
        rcases h with h | h
        · cases h
        · rw [List.length_cons] at h; omega
    rw [if_neg h1]
    by_cases h2 : rightU u = false
    · rw [if_pos h2]
      constructor
      · intro h; simp at h
      · rintro ⟨-, h, -⟩
        have := h u (List.mem_cons_self ..)
        rw [h2] at this; cases this
    rw [if_neg h2]
    by_cases h3 : u.n ∈ s
    · rw [if_pos h3]
      constructor
      · intro h; simp at h
      · rintro ⟨-, -, h, -⟩
        exact absurd h3 (h u (List.mem_cons_self ..))
    rw [if_neg h3, ih]
    have h2' : rightU u = true := by simpa using h2
    have hn : names (u :: r) = u.n :: names r := rfl
    rw [hn, List.nodup_cons]
    constructor
    · rintro ⟨k1, k2, k3, k4⟩
      refine ⟨.inr ?_, fun x hx => ?_, fun x hx => ?_, fun h => ?_, k4⟩
      · rw [List.length_cons]
        rcases k1 with rfl | k1
        · simp; omega
        · omega
      · rcases List.mem_cons.1 hx with rfl | hx
        · exact h2'
        · exact k2 x hx
      · rcases List.mem_cons.1 hx with rfl | hx
        · exact h3
        · exact fun h => k3 x hx (List.mem_append_left _ h)
      · obtain ⟨y, hy, hyn⟩ := List.mem_map.1 h
        exact k3 y hy (by rw [hyn]; simp)
    · rintro ⟨k1, k2, k3, k4, k5⟩
      refine ⟨.inr ?_, fun x hx => k2 x (List.mem_cons_of_mem _ hx), fun x hx h => ?_, k5⟩
      · rcases k1 with h | h
        · cases h
        · rw [List.length_cons] at h; omega
      · rcases List.mem_append.1 h with h | h
        · exact k3 x (List.mem_cons_of_mem _ hx) h
        · rw [List.mem_singleton] at h
          exact k4 (by rw [← h]; exact List.mem_map.2 ⟨x, hx, rfl⟩)
theorem names_rev (l : List Us) : names l.reverse = (names l).reverse := by unfold names; rw [List.map_reverse]
theorem wrong_rev (l : List Us) : wrong l.reverse = (0, 0) ↔ wrong l = (0, 0) := by
  unfold wrong
  rw [wr_ok_iff, wr_ok_iff, names_rev]
  have h1 : (names l).reverse.Nodup ↔ (names l).Nodup := (List.reverse_perm (names l)).nodup_iff
  rw [h1]
  simp
theorem who_rev {l : List Us} (h : (names l).Nodup) (name : List UInt8) : who l.reverse name = who l name := by
  have hr : (names l.reverse).Nodup := by rw [names_rev]; exact (List.reverse_perm (names l)).nodup_iff.2 h
  cases hw : who l name with
  | none =>
    unfold who at hw ⊢
    rw [List.find?_eq_none] at hw ⊢
    exact fun x hx => hw x (List.mem_reverse.1 hx)
  | some x =>
    obtain ⟨hx, hn⟩ := who_in hw
    obtain ⟨k, hk⟩ := List.getElem?_of_mem (List.mem_reverse.2 hx)
    rw [← hn]; exact who_at hr hk
theorem check_rev {l : List Us} (h : (names l).Nodup) (name pw : List UInt8) : check l.reverse name pw = check l name pw := by unfold check; rw [who_rev h]
theorem attrs_rev {l : List Us} (h : (names l).Nodup) (name : List UInt8) (rel : List (List UInt8)) : attrs l.reverse name rel = attrs l name rel := by unfold attrs userA; rw [who_rev h]
theorem sort_rev (l : List Us) : (names l.reverse).mergeSort leB = (names l).mergeSort leB := by rw [names_rev]; exact mergeSort_of_perm (List.reverse_perm _)
end Cr
def pc (p : Us × Value) : List Value := usc p.1 p.2
theorem pc_len (p : Us × Value) : (pc p).length = 3 := rfl
theorem info_userZ : (Try.prog.info? 40).map (fun i => (i.zero, i.size, i.bytes)) = some (some uz, 3, 56) := by kernel_rfl
/-- users in blocks of F, which the call owns; their pairs lie in the world w0 -/
def OwnU (w0 w : World) (F : Nat → Prop) (v : Value) (l : List Us) : Prop := ∃ ls : List (Us × Value), ls.map (·.1) = l ∧ OwnF 40 3 w F v l.length (ls.flatMap pc) ∧ ∀ p ∈ ls, Prs w0 p.2 p.1.a ∧ usF p.1
theorem OwnU.nil (w0 w : World) (F : Nat → Prop) : OwnU w0 w F (.slice none 0 0) [] := ⟨[], rfl, OwnF.nil _ _ _ _, fun x h => by simp at h⟩
theorem OwnU.ext {w0 w w' : World} {F : Nat → Prop} {v : Value} {l : List Us} (h : OwnU w0 w F v l) (e : Ext w w') : OwnU w0 w' F v l := let ⟨ls, h1, h2, h3⟩ := h; ⟨ls, h1, h2.ext e, h3⟩
theorem OwnU.mono {w0 w : World} {F G : Nat → Prop} {v : Value} {l : List Us} (h : OwnU w0 w F v l) (k : ∀ j, F j → G j) : OwnU w0 w G v l := let ⟨ls, h1, h2, h3⟩ := h; ⟨ls, h1, h2.mono k, h3⟩
theorem OwnU.shape {w0 w : World} {F : Nat → Prop} {v : Value} {l : List Us} (h : OwnU w0 w F v l) : ∃ a cap, v = .slice a l.length cap := let ⟨_, _, h2, _⟩ := h; let ⟨a, cap, h, _⟩ := h2.shape (by decide); ⟨a, cap, h⟩
theorem OwnU.uss {w0 w : World} {F : Nat → Prop} {v : Value} {l : List Us} (h : OwnU w0 w F v l) (e : Ext w0 w) : Uss w v l := by
  obtain ⟨ls, rfl, ⟨⟨h1, h⟩, h2⟩, hf⟩ := h
  rcases h with ⟨rfl, hn⟩ | ⟨g, cap, cur, rfl, hb, hh, hn, hm, hs, ht⟩
  · rw [List.eq_nil_of_length_eq_zero hn]
    exact Uss.nil w
  · refine ⟨_, cap, rfl, hn, hm, fun h => by simp at h, fun j x hj => ?_⟩
    rw [List.getElem?_map] at hj
    obtain ⟨p, hp, rfl⟩ := Option.map_eq_some_iff.1 hj
    obtain ⟨k1, k2⟩ := hf p (List.mem_of_getElem? hp)
    refine ⟨g, 0, pc p, rfl, rfl, fun i u hu => ?_, p.2, rfl, k1.ext e, k2⟩
    have hi := (List.getElem?_eq_some_iff.1 hu).1
    rw [pc_len] at hi
    have hjl := (List.getElem?_eq_some_iff.1 hp).1
    have := flat_get pc_len ls j i p u hp hu
    rw [List.length_map] at ht
    rw [← ht, List.getElem?_take, if_pos (by omega)] at this
    rw [cell_of_row w g _ cur _ _ hh, ← Array.getElem?_toList, Nat.zero_add]
    exact this
theorem wpList_appendU {ops : Array Oper} {rest : List Oper} {o : Oper} {a : Act} {w : World} {Q : Exit → Act → World → Prop} (hgd : o.guard = none) (s x : Operand)
    (ho : o.op = .call { callee := .builtin .append, args := #[s, x], argTypes := #[22, 22] })
    (w0 : World) (F : Nat → Prop) (v : Value) (l : List Us) (hs : a.eval s = v) (hown : OwnU w0 w F v l) (y : Us) (sa : Option Addr) (sn sc g : Nat) (hx : a.eval x = .slice (some ⟨g, 0, none⟩) 1 1) (fr : Nat × Nat)
    (hr : w.heap[g]? = some (.cells #[.string (str y.n), .string (str y.p), .slice sa sn sc] 40 fr)) (hp : Prs w0 (.slice sa sn sc) y.a) (hf : usF y) (hlen : l.length + 1 ≤ 1048576)
    (h : ∀ v' w', OwnU w0 w' (fun k => F k ∨ w.heap.size ≤ k) v' (l ++ [y]) → Chg F w w' → wpList Try.prog ops Q rest (a.put o.dst v') w') : wpList Try.prog ops Q (o :: rest) a w := by
  refine wpList_plain hgd fun K hK => ?_
  obtain ⟨ls, rfl, h2, h3⟩ := hown
  obtain ⟨v', w', hrun, k1, k2⟩ := run_appendF (P := Try.prog) (E := 40) (T := 22) Try.underlying22 info_userZ (by rfl) (by decide) o.type w F v _ _ h2 ⟨g, 0, none⟩ 1 1 (usc y (.slice sa sn sc)) rfl
    (fun j u hu => by
      rw [Addr.add_lit, cell_of_row w g _ _ _ _ hr, Nat.zero_add, ← Array.getElem?_toList]
      exact hu)
    (fun u hu => by
      simp only [usc, List.mem_cons, List.not_mem_nil, or_false] at hu
      rcases hu with rfl | rfl | rfl <;> rfl) (by unfold maxLen; omega) (by omega)
  unfold Oper.wp execOp
  simp only [ho, resolve, invoke, builtin, Sem.run_bind, Sem.run_pure, Result.andThen_ok, List.map_toArray, List.map_cons, List.map_nil, hs, hx, hrun]
  refine hK _ _ (h v' w' ⟨ls ++ [(y, .slice sa sn sc)], by simp, ?_, fun p hp2 => ?_⟩ k2)
  · rw [List.length_append, List.length_singleton, List.flatMap_append]
    exact k1
  · rcases List.mem_append.1 hp2 with hp2 | hp2
    · exact h3 p hp2
    · obtain rfl : p = (y, .slice sa sn sc) := by simpa using hp2
      exact ⟨hp, hf⟩
set_option maxRecDepth 20000 in
set_option maxHeartbeats 1000000 in
theorem credsTurned_any (v : Value) (l : List Us) (name pw : List UInt8) (vr : Value) (rel : List (List UInt8)) (w : World) (h : Uss w v l) (hn : fit name) (hp : fit pw) (hr : Txs w vr rel) :
    Calls Try.prog 7 #[v, .string (str name), .string (str pw), vr] w fun e w' => e = .returned (.bool true) ∧ Ext w w' := by
  have e0 := Ext.refl w
  have hh := Lib.hid h
  have hrh := Lib.hid hr
  obtain ⟨⟨ar, capr, rfl, hleR, hcmR, hnR, -⟩, -⟩ := hr
  obtain ⟨a, cap, rfl, hlen, hget⟩ := Rw.shape h
  have hgh := Lib.hid hget
  have hrl : (rel.length : Int) ≤ 9223372036854775807 := by unfold maxLen at hcmR; omega
  unfold fit at hn hp
  have hnI : (name.length : Int) ≤ 9223372036854775807 := by omega
  have hpI : (pw.length : Int) ≤ 9223372036854775807 := by omega
  clear h hnR hcmR hleR hget
  go_enter Try.func7, Try.ntmps7
  go_upto_region 3 with (first
    | (go_at_call 8; refine (awake_any _).mono ?_; rintro e W1 ⟨rfl, e1⟩)
    | (go_at_call 9; refine (few_any _ l _ (hh.out.ext e1)).mono ?_; rintro e W2 ⟨rfl, rfl⟩))
  have e1h := Lib.hid e1
  clear e0 e1
  cases hf : fewB l
  · go_wp2
    go_ret
    exact ⟨rfl, e1h.out⟩
  have hfe := Lib.hid (few_all hf)
  clear hf
  rcases Nat.lt_or_ge 80 name.length with hn8 | hn8
  · have : (80 : Int) < (name.length : Int) := by omega
    go_wp2
    go_ret
    exact ⟨rfl, e1h.out⟩
  rcases Nat.lt_or_ge 80 pw.length with hp8 | hp8
  · have : (80 : Int) < (pw.length : Int) := by omega
    have : ¬ (80 : Int) < (name.length : Int) := by omega
    go_wp2
    go_ret
    exact ⟨rfl, e1h.out⟩
  rcases Nat.lt_or_ge 10 rel.length with hr8 | hr8
  · have : (10 : Int) < (rel.length : Int) := by omega
    have : ¬ (80 : Int) < (pw.length : Int) := by omega
    have : ¬ (80 : Int) < (name.length : Int) := by omega
    go_wp2
    go_ret
    exact ⟨rfl, e1h.out⟩
  have g1 : ¬ (10 : Int) < (rel.length : Int) := by omega
  have g2 : ¬ (80 : Int) < (pw.length : Int) := by omega
  have g3 : ¬ (80 : Int) < (name.length : Int) := by omega
  have hsm := Lib.hid (fun x hx => Nat.le_trans (hfe.out.2 x hx).1 (by decide) : ∀ x ∈ l, x.a.length ≤ 1000)
  have hsp := Lib.hid (fun x hx => Nat.le_trans (hfe.out.2 x hx).2.2 (by decide) : ∀ x ∈ l, x.p.length ≤ 1000)
  have hsm2 := Lib.hid (fun x hx => hsm.out x (List.mem_reverse.1 hx) : ∀ x ∈ l.reverse, x.a.length ≤ 1000)
  have hsp2 := Lib.hid (fun x hx => hsp.out x (List.mem_reverse.1 hx) : ∀ x ∈ l.reverse, x.p.length ≤ 1000)
  have hl20 := hfe.out.1
  have hw0 : IntKind.i64.wrap ((l.length : Int) - 1) = (l.length : Int) - 1 := by rw [IntKind.wrap_i64]; omega
  go_upto_region 7 with fail
  clear g1 g2 g3 hw0
  go_loopw [11, 12] (fun tv i wr => ∃ k : Nat, k ≤ l.length ∧ i = .int .i64 ((l.length : Int) - 1 - (k : Int)) ∧ (∃ a1 c1, tv = .slice a1 k c1) ∧ RowKit.Hid (OwnU w wr (fun j => w.heap.size ≤ j) tv (l.reverse.take k)) ∧ Ext w wr) (fun _ i _ => ((intOf i) + 1).toNat)
  case atStart => exact ⟨0, Nat.zero_le _, by simp, ⟨none, 0, rfl⟩, Lib.hid (by rw [List.take_zero]; exact OwnU.nil _ _ _), e1h.out⟩
  case round =>
    clear e1h
    obtain ⟨k, hk, rfl, ⟨a1, c1, rfl⟩, ho, ek⟩ := hrel
    by_cases hlt : k < l.length
    · obtain ⟨j, hj⟩ : ∃ j : Nat, j = l.length - 1 - k := ⟨_, rfl⟩
      have hji : (l.length : Int) - 1 - (k : Int) = (j : Int) := by omega
      have hjl : (j : Int) < (l.length : Int) := by omega
      have hjk : RowKit.Hid ((j : Int) = (l.length : Int) - 1 - (k : Int)) := Lib.hid hji.symm
      obtain ⟨x, hx⟩ := some_at (l := l) (show j < l.length by omega)
      have hrx : l.reverse[k]? = some x := by
        rw [List.getElem?_reverse hlt, ← hj]; exact hx
      have htk : l.reverse.take (k + 1) = l.reverse.take k ++ [x] := by rw [List.take_add_one, hrx]; rfl
      have hkl : (l.reverse.take k).length = k := by rw [List.length_take, List.length_reverse]; omega
      obtain ⟨g, o, cs, rfl, hr, sl, rfl, hpx, hfx⟩ := hgh.out j x hx
      obtain ⟨a2, cap2, rfl, -, -⟩ := Rw.shape hpx
      have hr2 : wr.rangeAt g (o + j * 3) [.string (str x.n), .string (str x.p), .slice a2 x.a.length cap2] := fun i u hu => ek.cell (hr i u hu)
      have hw2 : IntKind.i64.wrap ((j : Int) - 1) = (j : Int) - 1 := by rw [IntKind.wrap_i64]; omega
      have hj0 : (0 : Int) ≤ (j : Int) := by omega
      have hpxh := Lib.hid hpx
      have hfxh := Lib.hid hfx
      rw [hji]
      clear hji hr hx hrx hpx hfx hj
      go_wp2_with (first
        | (refine wpList_load_mid rfl 40 _ rfl g (o + j * 3) rfl [.string (str x.n), .string (str x.p), .slice a2 x.a.length cap2] _ hr2 Try.underlying40 rfl info_user ?_)
        | (refine wpList_appendU rfl _ _ rfl w (fun j => w.heap.size ≤ j) _ (l.reverse.take k) rfl (ho.out.ext ((Ext.refl _).alloc _)) x a2 x.a.length cap2 wr.heap.size rfl (0, 0) (heap_alloc_new _ _) hpxh.out hfxh.out (by rw [hkl]; omega) ?_; intro v3 w3 o3 c3; obtain ⟨a3, cap3, rfl⟩ := o3.shape))
      rw [List.length_append, hkl, List.length_singleton] at o3
      rw [← htk] at o3
      go_roundw
      case rel => exact ⟨k + 1, by omega, by have := hjk.out; go_num, ⟨a3, cap3, rfl⟩, Lib.hid (o3.mono fun j hj => hj.elim id fun h => Nat.le_trans ek.size (Nat.le_trans ((Ext.refl _).alloc _).size h)), (ek.alloc _).chg c3 fun i hi => hi⟩
      case measure => simp [intOf]
    · obtain rfl : k = l.length := by omega
      have hT := ho.out.uss ek
      rw [List.take_of_length_le (by rw [List.length_reverse]; exact Nat.le_refl _)] at hT
      have hTh := Lib.hid hT
      have hi0 : ((l.length : Int) - 1 - (l.length : Int)) = -1 := by omega
      rw [hi0]
      have ekh := Lib.hid ek
      clear hT ho hi0 hlt hk ek
      have hbad : ∀ z : Int, (wrong l).1 = z → z ≠ 0 → Calls Try.prog 11 #[.slice a l.length cap] wr (Ret fun r w' => r = .tuple #[.pointer none, .int .i64 z, .int .i64 ((wrong l).2 : Int)] ∧ Ext wr w') := fun z hz h0 => by
        have := new_bad _ l wr (hh.out.ext ekh.out) hsm.out (by rw [hz]; exact h0)
        rwa [hz] at this
      have hbad2 : ∀ z : Int, (wrong l.reverse).1 = z → z ≠ 0 → ∀ W, Ext wr W → Calls Try.prog 11 #[.slice a1 l.length c1] W (Ret fun r w' => r = .tuple #[.pointer none, .int .i64 z, .int .i64 ((wrong l.reverse).2 : Int)] ∧ Ext W w') := fun z hz h0 W e => by
        have := new_bad _ l.reverse W (hTh.out.ext e) hsm2.out (by rw [hz]; exact h0)
        rwa [hz] at this
      rcases wrong_kinds l with hk | hk | hk | hk
      rotate_left
      iterate 3
        have hb := hbad _ hk (by decide)
        rcases wrong_kinds l.reverse with hk2 | hk2 | hk2 | hk2
        · rw [(wrong_rev l).1 hk2] at hk
          exact absurd hk (by decide)
        iterate 3
          have hb2 := hbad2 _ hk2 (by decide)
          obtain ⟨z1, hz1⟩ : ∃ z, z = (wrong l).2 := ⟨_, rfl⟩
          obtain ⟨z2, hz2⟩ : ∃ z, z = (wrong l.reverse).2 := ⟨_, rfl⟩
          rw [← hz1] at hb
          rw [← hz2] at hb2
          clear hbad hbad2 hk hk2 hz1 hz2
          go_wp2_with (first
            | (go_at_call 11; (with_reducible refine hb.mono ?_); rintro e W4 ⟨r, rfl, rfl, e4⟩)
            | (go_at_call 11; (with_reducible refine (hb2 _ e4).mono ?_); rintro e W5 ⟨r, rfl, rfl, e5⟩))
          go_ret
          exact ⟨rfl, (ekh.out.trans e4).trans e5⟩
      clear hbad hbad2
      have hg := new_good _ l wr (hh.out.ext ekh.out) hsm.out hk
      have hg2 := fun W (e : Ext wr W) => new_good (.slice a1 l.length c1) l.reverse W (hTh.out.ext e) hsm2.out ((wrong_rev l).2 hk)
      clear hk
      go_upto_region 16 with (first
        | (go_at_call 11; (with_reducible refine hg.mono ?_); rintro e W4 ⟨r, rfl, G, rfl, e4, ht⟩)
        | (go_at_call 11; (with_reducible refine (hg2 _ e4).mono ?_); rintro e W5 ⟨r5, rfl, G2, rfl, e5, ht2⟩))
      have hnd := ht.nodup
      have hN1 := Lib.hid (names_any _ l W5 (ht.ext e5) (by omega))
      have hN2 := Lib.hid (fun W (e : Ext W5 W) => names_any _ l.reverse W (ht2.ext e) (by simp; omega))
      have hC1 := Lib.hid (fun W (e : Ext W5 W) => check_any _ l name pw W ((ht.ext e5).ext e) hsp.out hp)
      have hC2 := Lib.hid (fun W (e : Ext W5 W) => check_any _ l.reverse name pw W (ht2.ext e) hsp2.out hp)
      have e05 := Lib.hid ((ekh.out.trans e4).trans e5)
      have hA1 := Lib.hid (fun W (e : Ext W5 W) => attrs_any _ _ l name rel W ((ht.ext e5).ext e) hsm.out (hrh.out.ext (e05.out.trans e)) (by omega))
      have hA2 := Lib.hid (fun W (e : Ext W5 W) => attrs_any _ _ l.reverse name rel W (ht2.ext e) hsm2.out (hrh.out.ext (e05.out.trans e)) (by omega))
      rw [sort_rev] at hN2
      rw [check_rev hnd] at hC2
      rw [attrs_rev hnd] at hA2
      obtain ⟨S, hS⟩ : ∃ S, S = (names l).mergeSort leB := ⟨_, rfl⟩
      obtain ⟨b, hb⟩ : ∃ b, b = check l name pw := ⟨_, rfl⟩
      obtain ⟨L, hL⟩ : ∃ L, L = attrs l name rel := ⟨_, rfl⟩
      rw [← hS] at hN1 hN2
      rw [← hb] at hC1 hC2
      rw [← hL] at hA1 hA2
      clear hg hg2 ht ht2 hS hb hL e4 e5 hnd
      go_wp2_with (first
        | (go_at_call 20; (with_reducible refine hN1.out.mono ?_); rintro e W6 ⟨u6, rfl, ho6, e6⟩; obtain ⟨a6, c6, rfl⟩ := ho6.shapeN)
        | (go_at_call 20; (with_reducible refine (hN2.out _ e6).mono ?_); rintro e W7 ⟨u7, rfl, ho7, e7⟩; obtain ⟨a7, c7, rfl⟩ := ho7.shapeN)
        | (go_at_call 19; refine (texts_same _ _ S _ (ho6.sl.ext e7) ho7.sl).mono ?_; rintro e W8 ⟨rfl, e8⟩; have e58 := (e6.trans e7).trans e8)
        | (go_at_call 13; (with_reducible refine (hC1.out _ e58).mono ?_); rintro e W9 ⟨rfl, e9⟩; have e59 := e58.trans e9)
        | (go_at_call 13; (with_reducible refine (hC2.out _ e59).mono ?_); rintro e W10 ⟨rfl, e10⟩; have e510 := e59.trans e10)
        | (go_at_call 16; (with_reducible refine (hA1.out _ e510).mono ?_); rintro e W11 ⟨u11, rfl, ho11, ⟨a11, cap11, rfl⟩, e11⟩; have e511 := e510.trans e11)
        | (go_at_call 16; (with_reducible refine (hA2.out _ e511).mono ?_); rintro e W12 ⟨u12, rfl, ho12, ⟨a12, cap12, rfl⟩, e12⟩)
        | (go_at_call 15; refine (pairs_same _ _ L _ (ho11.prs.ext e12) ho12.prs).mono ?_; rintro e W13 ⟨rfl, e13⟩))
      go_ret
      exact ⟨rfl, ((e05.out.trans e511).trans e12).trans e13⟩
end Go.Proofs.Ytnhgkklbjhjggaa
