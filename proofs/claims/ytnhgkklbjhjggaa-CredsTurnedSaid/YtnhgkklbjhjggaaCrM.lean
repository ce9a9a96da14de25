/- The document's Attrs. -/
import Derived.Test.YtnhgkklbjhjggaaCrL
import Derived.BigRegion
namespace Go.Proofs.Ytnhgkklbjhjggaa
open Go.RowKit Cr

set_option maxHeartbeats 1000000 in
theorem refAttrs_any (t v : Value) (l : List Us) (name : List UInt8) (rel : List (List UInt8)) (w : World) (h : Uss w t l) (hl : ∀ x ∈ l, x.a.length ≤ 1000) (hr : Txs w v rel) (hrl : rel.length ≤ 40) :
    Calls Try.prog 17 #[t, .string (str name), v] w (Ret fun u w' => OwnP w' (fun k => w.heap.size ≤ k) u (attrs l name rel) ∧ (∃ a cap, u = .slice a (attrs l name rel).length cap) ∧ Ext w w') := by
  have hAt := refAt_any t l name w h
  obtain ⟨⟨a1, cap1, rfl, hle1, hcm1, hn1, hget1⟩, hfit⟩ := hr
  have hgh1 := Lib.hid hget1
  have hrl' : (rel.length : Int) ≤ 40 := by omega
  have e0 := Ext.refl w
  rcases at_who name l 0 with ⟨h1, h2⟩ | ⟨j, u, h1, h2, h3⟩
  · have hn := Lib.hid (show attrs l name rel = [] from by unfold attrs userA named; rw [h1]; simp)
    rw [h2] at hAt
    clear hget1 hgh1 hn1 hcm1 hle1 hfit
    go_enter Try.func17, Try.ntmps17
    go_wp2_with (go_at_call 18; refine hAt.mono ?_; rintro e w' ⟨rfl, rfl⟩)
    go_loopw [8, 9] (fun out i wr => out = .slice none 0 0 ∧ i = .int .i64 (0 : Int) ∧ w = wr) (fun _ i _ => rel.length - (intOf i).toNat)
    case atStart => exact ⟨rfl, rfl, rfl⟩
    case round =>
      obtain ⟨rfl, rfl, rfl⟩ := hrel
      go_wp2
      all_goals go_ret
      all_goals exact Ret.mk ⟨by rw [hn.out]; exact OwnP.nil _ _, ⟨_, _, by rw [hn.out]; rfl⟩, e0⟩
  · rw [h3, Nat.zero_add] at hAt
    obtain ⟨a, cap, rfl, hlen, hget⟩ := Rw.shape h
    have hAlen := Lib.hid (hl u (List.mem_of_getElem? h2))
    have hattr := Lib.hid (attrs_len l name)
    have hAe : userA l name = u.a := by unfold userA; rw [h1]
    have htk := Lib.hid (show ∀ k x, rel[k]? = some x → attrs l name (rel.take (k + 1)) = attrs l name (rel.take k) ++ named x u.a from fun k x hx => by rw [attrs_take hx, hAe])
    rw [hAe] at hattr
    have hj := (List.getElem?_eq_some_iff.1 h2).1
    have hji : (j : Int) < (l.length : Int) := by omega
    obtain ⟨g, o, cs, rfl, hru, sl, rfl, hp, -⟩ := hget j u h2
    obtain ⟨-, -, c2⟩ := us_cells hru
    obtain ⟨a2, cap2, rfl, hlen2, hget2⟩ := Rw.shape hp
    have hgh2 := Lib.hid hget2
    obtain ⟨A, hA⟩ : ∃ A, A = u.a := ⟨_, rfl⟩
    rw [← hA] at hAlen hattr hgh2 c2 htk hlen2
    clear hget2 hget hru hp h hget1 hn1 hcm1 hle1 hfit h1 h2 h3 hl hAe hA hj
    go_enter Try.func17, Try.ntmps17
    go_wp2_with (go_at_call 18; refine hAt.mono ?_; rintro e w' ⟨rfl, rfl⟩)
    go_loopw [8, 9] (fun out i wr => ∃ k : Nat, k ≤ rel.length ∧ i = .int .i64 (k : Int) ∧ RowKit.Hid (OwnP wr (fun k => w.heap.size ≤ k) out (attrs l name (rel.take k))) ∧ Ext w wr) (fun _ i _ => rel.length - (intOf i).toNat)
    case atStart => exact ⟨0, Nat.zero_le _, rfl, Lib.hid (by simpa [attrs] using OwnP.nil _ _), e0⟩
    case round =>
      obtain ⟨k, hk, rfl, ho, ek⟩ := hrel
      clear e0
      by_cases hlt : k < rel.length
      · obtain ⟨x, hx⟩ := some_at hlt
        obtain ⟨g1, o1, rfl, hcx⟩ := hgh1.out k x hx
        have hki : (k : Int) < (rel.length : Int) := by omega
        have hw : IntKind.i64.wrap ((k : Int) + 1) = (k : Int) + 1 := by rw [IntKind.wrap_i64]; omega
        have hxt := Lib.hid (htk.out k x hx)
        clear hx
        unfold sv at hcx
        go_wp2
        obtain ⟨W1, hW1⟩ : ∃ W, W = wr := ⟨_, rfl⟩
        rw [← hW1] at ho ek ⊢
        clear hW1
        go_loopw [8, 10] (fun out i wm => ∃ m : Nat, m ≤ A.length ∧ i = .int .i64 (m : Int) ∧ RowKit.Hid (OwnP wm (fun k => w.heap.size ≤ k) out (attrs l name (rel.take k) ++ named x (A.take m))) ∧ Ext w wm) (fun _ i _ => A.length - (intOf i).toNat)
        case atStart => exact ⟨0, Nat.zero_le _, rfl, Lib.hid (by simpa [named] using ho.out), ek⟩
        case round =>
          obtain ⟨m, hml, rfl, ho2, em⟩ := hrel
          clear ho
          have d2 := em.cell c2
          have dx := em.cell hcx
          by_cases hmlt : m < A.length
          · obtain ⟨y, hy⟩ := some_at hmlt
            obtain ⟨g2, o2, cs2, rfl, hr2, rfl, hf2⟩ := hgh2.out m y hy
            have hmi : (m : Int) < (A.length : Int) := by omega
            have hw2 : IntKind.i64.wrap ((m : Int) + 1) = (m : Int) + 1 := by rw [IntKind.wrap_i64]; omega
            have hr3 : wr.rangeAt g2 (o2 + m * 2) [.string (str y.n), .string (str y.v)] := fun i u hu => em.cell (hr2 i u hu)
            obtain ⟨b0, -⟩ := pr_cells hr3
            have hnt := Lib.hid (named_take (x := x) hy)
            have hf2h := Lib.hid hf2
            have hr4 := Lib.hid hr2
            have ho3 := Lib.hid (ho2.out.ext (Ext.refl wr).drew)
            clear hr2 hy hf2 ho2
            go_wp2
            go_region
            clear d2 dx hr3 b0
            have em := em.drew
            have d2 := em.cell c2
            have hr3 : wr.drew.rangeAt g2 (o2 + m * 2) [.string (str y.n), .string (str y.v)] := fun i u hu => em.cell (hr4.out i u hu)
            generalize wr.drew = W2 at *
            cases hs : seq y.n x
            · rw [hs] at hnt
              have hnt2 := Lib.hid (hnt.out.trans (if_neg (by simp)))
              go_wp2
              go_roundw
              case rel => exact ⟨m + 1, by omega, by go_num, Lib.hid (by rw [hnt2.out]; exact ho3.out), em⟩
              case measure => simp [intOf]; omega
            · rw [hs] at hnt
              have hnt2 := Lib.hid (hnt.out.trans (if_pos rfl))
              have hlen := Lib.hid (show (attrs l name (rel.take k) ++ named x (A.take m)).length ≤ 50000 from by
                have h1 := hattr.out (rel.take k)
                have h2 := named_len x A m
                have h3 := hAlen.out
                have h4 : (rel.take k).length * A.length ≤ 40 * 1000 := Nat.mul_le_mul (by rw [List.length_take]; omega) h3
                rw [List.length_append]; omega)
              go_wp2_with (first
                | (refine wpList_load_mid rfl 42 _ rfl g2 (o2 + m * 2) rfl [.string (str y.n), .string (str y.v)] _ hr3 Try.underlying42 rfl info_pair ?_)
                | (refine wpList_appendP rfl _ _ rfl (fun k => w.heap.size ≤ k) _ _ rfl (ho3.out.ext ((Ext.refl _).alloc _)) _ [y] rfl (Prs.one rfl rfl hf2h.out) (by have := hlen.out; simp only [List.length_append, List.length_singleton] at *; omega) ?_; intro v' w' g1 g2; obtain ⟨a', cap', rfl, -⟩ := g1.shape))
              have hL : (attrs l name (rel.take k) ++ named x (A.take m) ++ [y]).length = (attrs l name (rel.take k)).length + ((named x (A.take m)).length + 1) := by simp only [List.length_append, List.length_singleton]; omega
              rw [hL] at g1
              go_roundw
              case rel => exact ⟨m + 1, by omega, by go_num, Lib.hid (by rw [hnt2.out, ← List.append_assoc]; exact g1.mono fun k hk => hk.elim id fun h => Nat.le_trans em.size (Nat.le_trans ((Ext.refl _).alloc _).size h)), (em.alloc _).chg g2 fun i hi => hi⟩
              case measure => simp [intOf]; omega
          · obtain rfl : m = A.length := by omega
            go_wp2
            go_roundw
            case rel => exact ⟨k + 1, by omega, by go_num, Lib.hid (by rw [hxt.out]; have := ho2.out; rw [List.take_length] at this; exact this), em⟩
            case measure => simp [intOf]; omega
      · obtain rfl : k = rel.length := by omega
        have ho' := ho.out
        rw [List.take_length] at ho'
        obtain ⟨a9, cap9, rfl, -⟩ := ho'.shape
        have hoh := Lib.hid ho'
        clear ho'
        go_wp2
        go_ret
        exact Ret.mk ⟨hoh.out, ⟨_, _, rfl⟩, ek⟩
end Go.Proofs.Ytnhgkklbjhjggaa
