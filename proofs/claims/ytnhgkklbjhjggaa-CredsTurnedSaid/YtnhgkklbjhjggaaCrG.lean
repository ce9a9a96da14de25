/- The document's Wrong, At. -/
import Derived.Test.YtnhgkklbjhjggaaCrF
import Derived.BigRegion
namespace Go.Proofs.Ytnhgkklbjhjggaa
open Go.RowKit Cr

namespace Cr
def names (l : List Us) : List (List UInt8) := l.map (·.n)
/-- what is wrong with a list, behind the names that are there already -/
def wr (seen : List (List UInt8)) (i : Nat) : List Us → Int × Nat
  | [] => (0, 0)
  | u :: r => if 16 ≤ i then (5, i) else if rightU u = false then (1, i) else if u.n ∈ seen then (7, i) else wr (seen ++ [u.n]) (i + 1) r
def wrong (l : List Us) : Int × Nat := wr [] 0 l
theorem names_take {l : List Us} {k : Nat} {x : Us} (h : l[k]? = some x) : names (l.take (k + 1)) = names (l.take k) ++ [x.n] := by
  have hk := (List.getElem?_eq_some_iff.1 h).1
  unfold names
  rw [List.take_succ_eq_append_getElem hk, List.map_append]
  rw [List.getElem?_eq_getElem hk] at h
  rw [Option.some.inj h]; rfl
theorem drop_at {α : Type} {l : List α} {k : Nat} {x : α} (h : l[k]? = some x) : l.drop k = x :: l.drop (k + 1) := by
  have hk := (List.getElem?_eq_some_iff.1 h).1
  rw [List.getElem?_eq_getElem hk] at h
  rw [List.drop_eq_getElem_cons hk, Option.some.inj h]
/-- how far one has come -/
def Went (l : List Us) (k : Nat) : Prop := wrong l = wr (names (l.take k)) k (l.drop k)
theorem Went.start (l : List Us) : Went l 0 := by unfold Went wrong names; simp
theorem Went.full {l : List Us} {k : Nat} {x : Us} (h : Went l k) (hx : l[k]? = some x) (hk : 16 ≤ k) : wrong l = (5, k) := by
  unfold Went at h; rw [h, drop_at hx, wr, if_pos hk]
theorem Went.bad {l : List Us} {k : Nat} {x : Us} (h : Went l k) (hx : l[k]? = some x) (hk : k < 16) (hr : rightU x = false) : wrong l = (1, k) := by
  unfold Went at h; rw [h, drop_at hx, wr, if_neg (by omega), if_pos hr]
theorem Went.twice {l : List Us} {k : Nat} {x : Us} (h : Went l k) (hx : l[k]? = some x) (hk : k < 16) (hr : rightU x = true) (hm : x.n ∈ names (l.take k)) : wrong l = (7, k) := by
  unfold Went at h; rw [h, drop_at hx, wr, if_neg (by omega), if_neg (by rw [hr]; simp), if_pos hm]
theorem Went.next {l : List Us} {k : Nat} {x : Us} (h : Went l k) (hx : l[k]? = some x) (hk : k < 16) (hr : rightU x = true) (hm : x.n ∉ names (l.take k)) : Went l (k + 1) := by
  unfold Went at h ⊢; rw [h, drop_at hx, wr, if_neg (by omega), if_neg (by rw [hr]; simp), if_neg hm, names_take hx]
theorem Went.done {l : List Us} (h : Went l l.length) : wrong l = (0, 0) := by
  unfold Went at h; rw [h, List.drop_length, wr]
/-- a user's place -/
def at_ (name : List UInt8) : Nat → List Us → Int
  | _, [] => -1
  | i, u :: r => if u.n = name then (i : Int) else at_ name (i + 1) r
end Cr
theorem refWrong_any (v : Value) (l : List Us) (w : World) (h : Uss w v l) :
    Calls Try.prog 12 #[v] w fun e w' => e = .returned (.tuple #[.int .i64 (wrong l).1, .int .i64 ((wrong l).2 : Int)]) ∧ Ext w w' := by
  obtain ⟨a, cap, rfl, hlen, hget⟩ := Rw.shape h
  have hgh := Lib.hid hget
  clear hget h
  have e0 := Ext.refl w
  go_enter Try.func12, Try.ntmps12
  go_wp2
  go_loopw [4] (fun i wr => ∃ k : Nat, k ≤ l.length ∧ k ≤ 16 ∧ i = .int .i64 (k : Int) ∧ RowKit.Hid (Went l k) ∧ Ext w wr) (fun i _ => l.length - (intOf i).toNat)
  case atStart => exact ⟨0, Nat.zero_le _, by omega, rfl, Lib.hid (Went.start l), e0⟩
  case round =>
    obtain ⟨k, hk, hk16, rfl, hd, ek⟩ := hrel
    by_cases hlt : k < l.length
    · obtain ⟨x, hx⟩ := some_at hlt
      obtain ⟨g, o, cs, rfl, hr, sl, rfl, hp, hf⟩ := hgh.out k x hx
      have hki : (k : Int) < (l.length : Int) := by omega
      have hw : IntKind.i64.wrap ((k : Int) + 1) = (k : Int) + 1 := by rw [IntKind.wrap_i64]; omega
      have hxh := Lib.hid hx
      have hr2 : wr.rangeAt g (o + k * 3) [.string (str x.n), .string (str x.p), sl] := fun i u hu => ek.cell (hr i u hu)
      have hR := fun W (e : Ext w W) => refRight_any x sl W (hp.ext e) hf
      clear hx hp hf hr
      by_cases h16 : k = 16
      · subst h16
        have hn := Lib.hid (hd.out.full hxh.out (by omega))
        go_wp2
        go_ret2
        exact ⟨by rw [hn.out]; rfl, ek⟩
      have d16 : ((k : Int) == 16) = false := by simp; omega
      cases hv : rightU x
      · rw [hv] at hR
        have hRh := Lib.hid hR
        have hn := Lib.hid (hd.out.bad hxh.out (by omega) hv)
        clear hR
        go_wp2_with (first
          | (refine wpList_load_mid rfl 40 _ rfl g (o + k * 3) rfl [.string (str x.n), .string (str x.p), sl] _ hr2 Try.underlying40 rfl info_user ?_)
          | (go_at_call 24; refine (hRh.out _ ek).mono ?_; rintro e w2 ⟨rfl, e2⟩))
        go_ret2
        exact ⟨by rw [hn.out]; rfl, ek.trans e2⟩
      · rw [hv] at hR
        have hRh := Lib.hid hR
        clear hR
        have hno : RowKit.Hid (x.n ∉ names (l.take k) → Went l (k + 1)) := Lib.hid fun h => hd.out.next hxh.out (by omega) hv h
        have hyes : RowKit.Hid (x.n ∈ names (l.take k) → wrong l = (7, k)) := Lib.hid fun h => hd.out.twice hxh.out (by omega) hv h
        go_upto_region 9 with (first
          | (refine wpList_load_mid rfl 40 _ rfl g (o + k * 3) rfl [.string (str x.n), .string (str x.p), sl] _ hr2 Try.underlying40 rfl info_user ?_)
          | (go_at_call 24; refine (hRh.out _ ek).mono ?_; rintro e w2 ⟨rfl, e2⟩))
        have ek2 := ek.trans e2
        have hr3 : w2.rangeAt g (o + k * 3) [.string (str x.n), .string (str x.p), sl] := fun i u hu => e2.cell (hr2 i u hu)
        have hr3h := Lib.hid hr3
        clear e2 hr2 hRh hd ek hr3
        go_wp2
        go_loopw [6] (fun i wr => ∃ m : Nat, m ≤ k ∧ i = .int .i64 (m : Int) ∧ RowKit.Hid (∀ j y, j < m → l[j]? = some y → y.n ≠ x.n) ∧ Ext w2 wr) (fun i _ => k - (intOf i).toNat)
        case atStart => exact ⟨0, Nat.zero_le _, rfl, Lib.hid fun j y hj => by omega, Ext.refl w2⟩
        case round =>
          obtain ⟨m, hm, rfl, hd2, em⟩ := hrel
          by_cases hml : m < k
          · obtain ⟨y, hy⟩ := some_at (show m < l.length by omega)
            obtain ⟨g', o', cs, e', hr', sl', rfl, -, -⟩ := hgh.out m y hy
            cases e'
            have hmi : (m : Int) < (k : Int) := by omega
            have hmi2 : (m : Int) < (l.length : Int) := by omega
            have hw2 : IntKind.i64.wrap ((m : Int) + 1) = (m : Int) + 1 := by rw [IntKind.wrap_i64]; omega
            have a0 := (ek2.trans em).cell (us_cells hr').1
            have b0 := em.cell (us_cells hr3h.out).1
            have hyh := Lib.hid hy
            clear hr' hy
            cases hq : seq y.n x.n
            · have hq2 := Lib.hid (seq_false.1 hq)
              go_wp2_with go_region
              go_roundw
              case rel => exact ⟨m + 1, by omega, by go_num, Lib.hid fun j z hj hz => by
                by_cases e : j = m
                · subst e; rw [hyh.out] at hz; cases hz; exact hq2.out
                · exact hd2.out j z (by omega) hz, by first | exact em.drew | exact em⟩
              case measure => simp [intOf]; omega
            · have hn := Lib.hid (hyes.out (by
                rw [← seq_true.1 hq]
                unfold names
                rw [List.mem_map]
                exact ⟨y, List.mem_of_getElem? (by rw [List.getElem?_take, if_pos hml]; exact hyh.out), rfl⟩))
              go_wp2_with go_region
              go_ret2
              exact ⟨by rw [hn.out]; rfl, by first | exact (ek2.trans em).drew | exact ek2.trans em⟩
          · obtain rfl : m = k := by omega
            have hn := Lib.hid (hno.out fun h => by
              unfold names at h
              rw [List.mem_map] at h
              obtain ⟨y, hy, e⟩ := h
              obtain ⟨j, hj⟩ := List.getElem?_of_mem hy
              rw [List.getElem?_take] at hj
              split at hj
              · exact hd2.out j y (by assumption) hj e
              · cases hj)
            go_wp2
            go_roundw
            case rel => exact ⟨m + 1, by omega, by omega, by go_num, hn, ek2.trans em⟩
            case measure => simp [intOf]; omega
    · obtain rfl : k = l.length := by omega
      have hn := Lib.hid hd.out.done
      go_wp2
      go_ret2
      exact ⟨by rw [hn.out]; rfl, ek⟩
theorem at_step (name : List UInt8) (l : List Us) (k : Nat) (x : Us) (hx : l[k]? = some x) : at_ name k (l.drop k) = if x.n = name then (k : Int) else at_ name (k + 1) (l.drop (k + 1)) := by
  rw [drop_at hx, at_]
theorem refAt_any (v : Value) (l : List Us) (name : List UInt8) (w : World) (h : Uss w v l) :
    Calls Try.prog 18 #[v, .string (str name)] w fun e w' => e = .returned (.int .i64 (at_ name 0 l)) ∧ w = w' := by
  obtain ⟨a, cap, rfl, hlen, hget⟩ := Rw.shape h
  have hgh := Lib.hid hget
  clear hget h
  go_enter Try.func18, Try.ntmps18
  go_wp2
  go_loop [5] (fun i => ∃ k : Nat, k ≤ l.length ∧ i = .int .i64 (k : Int) ∧ RowKit.Hid (at_ name 0 l = at_ name k (l.drop k))) (fun i => l.length - (intOf i).toNat)
  case atStart => exact ⟨0, Nat.zero_le _, rfl, Lib.hid rfl⟩
  case round =>
    obtain ⟨k, hk, rfl, hd⟩ := hrel
    by_cases hlt : k < l.length
    · obtain ⟨x, hx⟩ := some_at hlt
      obtain ⟨g, o, cs, rfl, hr, sl, rfl, -, -⟩ := hgh.out k x hx
      have hki : (k : Int) < (l.length : Int) := by omega
      have hw : IntKind.i64.wrap ((k : Int) + 1) = (k : Int) + 1 := by rw [IntKind.wrap_i64]; omega
      have a0 := (us_cells hr).1
      have hs := Lib.hid (hd.out.trans (at_step name l k x hx))
      clear hr hx hd
      cases hq : seq x.n name
      · have hn := Lib.hid (hs.out.trans (if_neg (seq_false.1 hq)))
        clear hs
        go_wp2
        go_round
        case rel => exact ⟨k + 1, by omega, by go_num, hn⟩
        case measure => simp [intOf]; omega
      · have hn := Lib.hid (hs.out.trans (if_pos (seq_true.1 hq)))
        clear hs
        go_wp2
        go_ret
        exact ⟨by rw [hn.out]; rfl, rfl⟩
    · obtain rfl : k = l.length := by omega
      have hn := Lib.hid (hd.out.trans (by rw [List.drop_length]; rfl : _ = -1))
      go_wp2
      go_ret
      exact ⟨by rw [hn.out]; rfl, rfl⟩
end Go.Proofs.Ytnhgkklbjhjggaa
