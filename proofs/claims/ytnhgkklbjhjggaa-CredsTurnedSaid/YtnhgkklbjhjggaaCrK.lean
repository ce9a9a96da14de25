/- Package creds: Attrs. -/
import Derived.Test.YtnhgkklbjhjggaaCrJ
namespace Go.Proofs.Ytnhgkklbjhjggaa
open Go.RowKit Cr

namespace Cr
/-- of these attributes, those of this name -/
def named (x : List UInt8) (a : List Pr) : List Pr := a.filter fun y => seq y.n x
def attrs (l : List Us) (name : List UInt8) (rel : List (List UInt8)) : List Pr := rel.flatMap fun x => named x (userA l name)
theorem named_take {x : List UInt8} {a : List Pr} {m : Nat} {y : Pr} (h : a[m]? = some y) : named x (a.take (m + 1)) = if seq y.n x then named x (a.take m) ++ [y] else named x (a.take m) := by
  have hk := (List.getElem?_eq_some_iff.1 h).1
  rw [List.getElem?_eq_getElem hk] at h
  unfold named
  rw [List.take_succ_eq_append_getElem hk, List.filter_append, Option.some.inj h]
  cases hs : seq y.n x <;> simp [hs]
theorem named_len (x : List UInt8) (a : List Pr) (m : Nat) : (named x (a.take m)).length ≤ a.length := by
  unfold named
  have h1 := List.length_filter_le (fun y => seq y.n x) (a.take m)
  rw [List.length_take] at h1
  omega
theorem attrs_take {l : List Us} {name x : List UInt8} {rel : List (List UInt8)} {k : Nat} (h : rel[k]? = some x) : attrs l name (rel.take (k + 1)) = attrs l name (rel.take k) ++ named x (userA l name) := by
  have hk := (List.getElem?_eq_some_iff.1 h).1
  rw [List.getElem?_eq_getElem hk] at h
  unfold attrs
  rw [List.take_succ_eq_append_getElem hk, List.flatMap_append, Option.some.inj h]
  simp
theorem attrs_len (l : List Us) (name : List UInt8) : ∀ (rel : List (List UInt8)), (attrs l name rel).length ≤ rel.length * (userA l name).length
  | [] => by simp [attrs]
  | x :: r => by
    have ih := attrs_len l name r
    have h1 := named_len x (userA l name) (userA l name).length
    rw [List.take_length] at h1
    unfold attrs at ih ⊢
    rw [List.flatMap_cons, List.length_append, List.length_cons, Nat.add_mul]
    omega
end Cr
theorem field_user (a b : ByteArray) (q : Option Addr) (n c : Nat) (W : World) : (Instr.field 40 (.agg #[.string a, .string b, .slice q n c]) 2).run Try.prog W = .ok (.slice q n c) W := by kernel_rfl
set_option maxHeartbeats 1000000 in
theorem attrs_any (t v : Value) (l : List Us) (name : List UInt8) (rel : List (List UInt8)) (w : World) (h : Tb w t l) (hl : ∀ x ∈ l, x.a.length ≤ 1000) (hr : Txs w v rel) (hrl : rel.length ≤ 40) :
    Calls Try.prog 16 #[t, .string (str name), v] w (Ret fun u w' => OwnP w' (fun k => w.heap.size ≤ k) u (attrs l name rel) ∧ (∃ a cap, u = .slice a (attrs l name rel).length cap) ∧ Ext w w') := by
  obtain ⟨G, B, ps, rfl, hc, hm, ht, -⟩ := h
  obtain ⟨p1, p2, q1, q2, q3, bb, hbb, hlk⟩ := table_look (B := B) ht name
  have hA : Prs w (.slice q1 q2 q3) (userA l name) ∧ (userA l name).length ≤ 1000 := by
    unfold userA
    rcases hbb with ⟨h1, -, -, rfl, rfl, rfl⟩ | ⟨x, h1, h2, -, -, -, h3⟩
    · rw [h1]; exact ⟨Prs.nil w, by simp⟩
    · rw [h1]; exact ⟨h3, hl x h2⟩
  obtain ⟨hA, hAl⟩ := hA
  have hAlen := Lib.hid hAl
  have hattr := Lib.hid (attrs_len l name)
  obtain ⟨A, hAe⟩ : ∃ A, A = userA l name := ⟨_, rfl⟩
  rw [← hAe] at hA hAlen hattr
  have htk := Lib.hid (show ∀ k x, rel[k]? = some x → attrs l name (rel.take (k + 1)) = attrs l name (rel.take k) ++ named x A from fun k x hx => by rw [attrs_take hx, hAe])
  clear hAl hbb ht hAe
  obtain ⟨a2, cap2, hq, hlen2, hget2⟩ := Rw.shape hA
  cases hq
  have hgh2 := Lib.hid hget2
  obtain ⟨⟨a1, cap1, rfl, hle1, hcm1, hn1, hget1⟩, hfit⟩ := hr
  have hgh1 := Lib.hid hget1
  have hrl' : (rel.length : Int) ≤ 40 := by omega
  have e0 := Ext.refl w
  clear hget1 hget2 hA hn1 hcm1 hle1 hfit
  go_enter Try.func16, Try.ntmps16
  go_wp2
  go_loopw [7, 14] (fun out i wr => ∃ k : Nat, k ≤ rel.length ∧ i = .int .i64 (k : Int) ∧ RowKit.Hid (OwnP wr (fun k => w.heap.size ≤ k) out (attrs l name (rel.take k))) ∧ Ext w wr) (fun _ i _ => rel.length - (intOf i).toNat)
  case atStart => exact ⟨0, Nat.zero_le _, rfl, Lib.hid (by simpa [attrs] using OwnP.nil _ _), e0⟩
  case round =>
    obtain ⟨k, hk, rfl, ho, ek⟩ := hrel
    clear e0
    by_cases hlt : k < rel.length
    · obtain ⟨x, hx⟩ := some_at hlt
      obtain ⟨g, o, rfl, hcx⟩ := hgh1.out k x hx
      have hcx1 := ek.cell hcx
      have hki : (k : Int) < (rel.length : Int) := by omega
      have hw : IntKind.i64.wrap ((k : Int) + 1) = (k : Int) + 1 := by rw [IntKind.wrap_i64]; omega
      have hc1 := ek.cell hc
      have hlk1 : (Instr.lookup 48 (.map (some B)) (.string (str name)) false).run Try.prog wr = .ok (.agg #[.string (str p1), .string (str p2), .slice q1 A.length q3]) wr := hlk _ false (hm.ext ek)
      have hxt := Lib.hid (htk.out k x hx)
      clear hcx hx
      have hfu := field_user
      unfold sv at hcx1
      go_upto_region 6 with fail
      clear hlk1 hc1 hcx1
      obtain ⟨W1, hW1⟩ : ∃ W, W = wr := ⟨_, rfl⟩
      rw [← hW1] at ho ek ⊢
      clear hW1
      go_loopw [7, 26] (fun out i wm => ∃ m : Nat, m ≤ A.length ∧ i = .int .i64 (m : Int) ∧ RowKit.Hid (OwnP wm (fun k => w.heap.size ≤ k) out (attrs l name (rel.take k) ++ named x (A.take m))) ∧ Ext w wm) (fun _ i _ => A.length - (intOf i).toNat)
      case atStart => exact ⟨0, Nat.zero_le _, rfl, Lib.hid (by simpa [named] using ho.out), ek⟩
      case round =>
        obtain ⟨m, hml, rfl, ho2, em⟩ := hrel
        clear ho
        by_cases hmlt : m < A.length
        · obtain ⟨y, hy⟩ := some_at hmlt
          obtain ⟨g2, o2, cs2, rfl, hr2, rfl, hf2⟩ := hgh2.out m y hy
          have hmi : (m : Int) < (A.length : Int) := by omega
          have hw2 : IntKind.i64.wrap ((m : Int) + 1) = (m : Int) + 1 := by rw [IntKind.wrap_i64]; omega
          have hr3 : wr.rangeAt g2 (o2 + m * 2) [.string (str y.n), .string (str y.v)] := fun i u hu => em.cell (hr2 i u hu)
          have hnt := Lib.hid (named_take (x := x) hy)
          have hf2h := Lib.hid hf2
          clear hr2 hy hf2
          go_upto_region 8 with (refine wpList_load_mid rfl 42 _ rfl g2 (o2 + m * 2) rfl [.string (str y.n), .string (str y.v)] _ hr3 Try.underlying42 rfl info_pair ?_)
          have x1 := heap_alloc_new wr (.cells #[.string (str y.n), .string (str y.v)] 42)
          have e2 := (Ext.refl wr).alloc (.cells #[.string (str y.n), .string (str y.v)] 42)
          generalize wr.alloc (.cells #[.string (str y.n), .string (str y.v)] 42) = W2 at *
          generalize wr.heap.size = B7 at *
          have c0 : W2.cell? ⟨B7, 0, none⟩ = some (.string (str y.n)) := cell_of_row _ B7 0 _ _ _ x1
          have hx1 := Lib.hid x1
          have e3 := em.trans e2
          have ho3 := Lib.hid (ho2.out.ext e2)
          clear x1 e2 ho2 em hr3
          cases hs : seq y.n x
          · rw [hs] at hnt
            have hnt2 := Lib.hid (hnt.out.trans (if_neg (by simp)))
            go_wp2
            go_roundw
            case rel => exact ⟨m + 1, by omega, by go_num, Lib.hid (by rw [hnt2.out]; exact ho3.out), e3⟩
            case measure => simp [intOf]; omega
          · rw [hs] at hnt
            have hnt2 := Lib.hid (hnt.out.trans (if_pos rfl))
            have hlen := Lib.hid (show (attrs l name (rel.take k) ++ named x (A.take m)).length ≤ 50000 from by
              have h1 := hattr.out (rel.take k)
              have h2 := named_len x A m
              have h3 := hAlen.out
              have h4 : (rel.take k).length * A.length ≤ 40 * 1000 := Nat.mul_le_mul (by rw [List.length_take]; omega) h3
              rw [List.length_append]; omega)
            go_wp2_with (first
              | (refine wpList_load_row rfl 42 _ rfl B7 rfl 42 #[.string (str y.n), .string (str y.v)] (0, 0) _ hx1.out Try.underlying42 rfl info_pair ?_)
              | (refine wpList_appendP rfl _ _ rfl (fun k => w.heap.size ≤ k) _ _ rfl (ho3.out.ext ((Ext.refl W2).alloc _)) _ [y] rfl (Prs.one rfl rfl hf2h.out) (by have := hlen.out; simp only [List.length_append, List.length_singleton] at *; omega) ?_; intro v' w' g1 g2; obtain ⟨a', cap', rfl, -⟩ := g1.shape))
            have hL : (attrs l name (rel.take k) ++ named x (A.take m) ++ [y]).length = (attrs l name (rel.take k)).length + ((named x (A.take m)).length + 1) := by simp only [List.length_append, List.length_singleton]; omega
            rw [hL] at g1
            go_roundw
            case rel => exact ⟨m + 1, by omega, by go_num, Lib.hid (by rw [hnt2.out, ← List.append_assoc]; exact g1.mono fun k hk => hk.elim id fun h => Nat.le_trans e3.size (Nat.le_trans ((Ext.refl W2).alloc _).size h)), (e3.alloc _).chg g2 fun i hi => hi⟩
            case measure => simp [intOf]; omega
        · obtain rfl : m = A.length := by omega
          go_wp2
          go_roundw
          case rel => exact ⟨k + 1, by omega, by go_num, Lib.hid (by rw [hxt.out]; have := ho2.out; rw [List.take_length] at this; exact this), em⟩
          case measure => simp [intOf]; omega
    · obtain rfl : k = rel.length := by omega
      have ho' := ho.out
      rw [List.take_length] at ho'
      obtain ⟨a9, cap9, rfl, -⟩ := ho'.shape
      have hoh := Lib.hid ho'
      clear ho'
      go_wp2
      go_ret
      exact Ret.mk ⟨hoh.out, ⟨_, _, rfl⟩, ek⟩
end Go.Proofs.Ytnhgkklbjhjggaa
