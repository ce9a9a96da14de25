/- CredsOne, walked. -/
import Derived.Test.YtnhgkklbjhjggaaCrO
namespace Go.Proofs.Ytnhgkklbjhjggaa
open Go.RowKit Cr

namespace Cr
theorem wr_right : ∀ (l : List Us) (s : List (List UInt8)) (i : Nat), wr s i l = (0, 0) → ∀ x ∈ l, rightU x = true
  | [], _, _, _, x, hx => by simp at hx
  | u :: r, s, i, h, x, hx => by
    unfold wr at h
    split at h
    · simp at h
    split at h
    · simp at h
    rename_i h1
    split at h
    · simp at h
    rcases List.mem_cons.1 hx with rfl | hx
    · simpa using h1
    · exact wr_right r _ _ h x hx
theorem who_at {l : List Us} (hn : (names l).Nodup) {k : Nat} {x : Us} (h : l[k]? = some x) : who l x.n = some x := by
  cases hw : who l x.n with
  | none =>
    unfold who at hw
    have := (List.find?_eq_none.1 hw) x (List.mem_of_getElem? h)
    simp [seq_self] at this
  | some y =>
    obtain ⟨hy, hyn⟩ := who_in hw
    obtain ⟨j, hj⟩ := List.getElem?_of_mem hy
    have hk := (List.getElem?_eq_some_iff.1 h).1
    have e : k = j := (List.getElem?_inj (l := names l) (by simpa [names] using hk) hn).1 (by unfold names; rw [List.getElem?_map, List.getElem?_map, h, hj]; simp [hyn])
    subst e
    rw [h] at hj
    exact hj.symm
theorem check_at {l : List Us} (hn : (names l).Nodup) {k : Nat} {x : Us} (h : l[k]? = some x) (pw : List UInt8) : check l x.n pw = seq x.p pw := by
  unfold check; rw [who_at hn h]
def known (l : List Us) (name : List UInt8) (k : Nat) : Bool := (l.take k).any fun u => seq u.n name
theorem known_step {l : List Us} {name : List UInt8} {k : Nat} {x : Us} (h : l[k]? = some x) : known l name (k + 1) = (known l name k || seq x.n name) := by
  unfold known; rw [List.take_add_one, h, List.any_append]; simp
theorem known_all {l : List Us} {name : List UInt8} (h : known l name l.length = false) (pw : List UInt8) : check l name pw = false := by
  unfold known at h
  rw [List.take_length, List.any_eq_false] at h
  unfold check
  have : who l name = none := List.find?_eq_none.2 fun x hx e => h x hx (by rw [seq_true] at e ⊢; exact e.symm)
  rw [this]
end Cr
theorem seq_long (p q : List UInt8) (h : p.length ≠ q.length) : seq p q = false := seq_false.2 fun e => h (congrArg _ e)
theorem seq_comm (p q : List UInt8) : seq p q = seq q p := by
  cases h : seq q p
  · exact seq_false.2 fun e => seq_false.1 h e.symm
  · exact seq_true.2 (seq_true.1 h).symm
set_option maxRecDepth 20000 in
set_option maxHeartbeats 1000000 in
theorem credsOne_any (v : Value) (l : List Us) (name pw : List UInt8) (w : World) (h : Uss w v l) (hn : fit name) (hp : fit pw) :
    Calls Try.prog 4 #[v, .string (str name), .string (str pw)] w fun e w' => e = .returned (.bool true) ∧ Ext w w' := by
  have e0 := Ext.refl w
  have hh := Lib.hid h
  obtain ⟨a, cap, rfl, hlen, hget⟩ := Rw.shape h
  have hgh := Lib.hid hget
  unfold fit at hn hp
  have hnI : (name.length : Int) ≤ 9223372036854775807 := by omega
  have hpI : (pw.length : Int) ≤ 9223372036854775807 := by omega
  clear h hget
  go_enter Try.func4, Try.ntmps4
  go_upto_region 3 with (first
    | (go_at_call 8; refine (awake_any _).mono ?_; rintro e W1 ⟨rfl, e1⟩)
    | (go_at_call 9; refine (few_any _ l _ (hh.out.ext e1)).mono ?_; rintro e W2 ⟨rfl, rfl⟩))
  have e1h := Lib.hid e1
  clear e0 e1
  cases hf : fewB l
  · go_wp2
    go_ret
    exact ⟨rfl, e1h.out⟩
  have hfe := Lib.hid (few_all hf)
  clear hf
  rcases Nat.lt_or_ge 80 name.length with hn8 | hn8
  · have : (80 : Int) < (name.length : Int) := by omega
    go_wp2
    go_ret
    exact ⟨rfl, e1h.out⟩
  rcases Nat.lt_or_ge 80 pw.length with hp8 | hp8
  · have : (80 : Int) < (pw.length : Int) := by omega
    have : ¬ (80 : Int) < (name.length : Int) := by omega
    go_wp2
    go_ret
    exact ⟨rfl, e1h.out⟩
  have g2 : ¬ (80 : Int) < (pw.length : Int) := by omega
  have g3 : ¬ (80 : Int) < (name.length : Int) := by omega
  have hsm := Lib.hid (fun x hx => Nat.le_trans (hfe.out.2 x hx).1 (by decide) : ∀ x ∈ l, x.a.length ≤ 1000)
  have hsp := Lib.hid (fun x hx => Nat.le_trans (hfe.out.2 x hx).2.2 (by decide) : ∀ x ∈ l, x.p.length ≤ 1000)
  have hbad : ∀ z : Int, (wrong l).1 = z → z ≠ 0 → Calls Try.prog 11 #[.slice a l.length cap] W1 (Ret fun r w' => r = .tuple #[.pointer none, .int .i64 z, .int .i64 ((wrong l).2 : Int)] ∧ Ext W1 w') := fun z hz h0 => by
    have := new_bad _ l W1 (hh.out.ext e1h.out) hsm.out (by rw [hz]; exact h0)
    rwa [hz] at this
  rcases wrong_kinds l with hk | hk | hk | hk
  rotate_left
  iterate 3
    have hb := hbad _ hk (by decide)
    clear hbad hk
    go_wp2_with (go_at_call 11; refine hb.mono ?_; rintro e W4 ⟨r, rfl, rfl, e4⟩)
    go_ret
    exact ⟨rfl, e1h.out.trans e4⟩
  clear hbad
  have hg := new_good _ l W1 (hh.out.ext e1h.out) hsm.out hk
  have hrt := Lib.hid (wr_right l [] 0 hk)
  clear hk
  go_upto_region 8 with (go_at_call 11; refine hg.mono ?_; rintro e W4 ⟨r, rfl, G, rfl, e4, ht⟩)
  have hnd : Hid ((names l).Nodup) := Lib.hid (let ⟨_, _, _, _, _, _, _, h⟩ := ht; h)
  have e02 := e1h.out.trans e4
  have hth := Lib.hid ht
  clear hg e4 e1h ht
  go_wp2
  go_loopw [12, 13] (fun kn i wr => ∃ k : Nat, k ≤ l.length ∧ kn = .bool (known l name k) ∧ i = .int .i64 (k : Int) ∧ Ext W4 wr) (fun _ i _ => l.length - (intOf i).toNat)
  case atStart => exact ⟨0, Nat.zero_le _, rfl, rfl, Ext.refl _⟩
  case round =>
    obtain ⟨k, hkl, rfl, rfl, ek⟩ := hrel
    by_cases hlt : k < l.length
    · obtain ⟨x, hx⟩ := some_at hlt
      obtain ⟨g, o, cs, rfl, hr, sl, rfl, -, -⟩ := hgh.out k x hx
      obtain ⟨c0, c1, -⟩ := us_cells hr
      have hki : (k : Int) < (l.length : Int) := by omega
      have hw : IntKind.i64.wrap ((k : Int) + 1) = (k : Int) + 1 := by rw [IntKind.wrap_i64]; omega
      have hxr := hrt.out x (List.mem_of_getElem? hx)
      have hx1 : 1 ≤ x.p.length := by
        unfold rightU at hxr
        simp only [Bool.and_eq_true, decide_eq_true_iff] at hxr
        omega
      have K := fun pw W (e : Ext wr W) (hp : pw.length ≤ 9223372036854775807) => check_any _ l x.n pw W (hth.out.ext (ek.trans e)) hsp.out hp
      have hck := check_at hnd.out hx
      have K1 := fun W e => K x.p W e (by have := hsp.out x (List.mem_of_getElem? hx); omega)
      have K2 := fun W e => K [] W e (by simp)
      have K3 := fun W e => K (x.p ++ [120]) W e (by have := hsp.out x (List.mem_of_getElem? hx); simp; omega)
      rw [hck, seq_self] at K1
      rw [hck, seq_long _ _ (by intro h; simp only [List.length_nil] at h; omega)] at K2
      rw [hck, seq_long _ _ (by simp)] at K3
      have kb : ∀ W, (Op.stringOp .add (str x.p) (str [120])).run Try.prog W = .ok (.string (str (x.p ++ [120]))) W := fun W => by rw [run_string_add_sum W (str x.p) (str [120]) (by have := hsp.out x (List.mem_of_getElem? hx); rw [str_size, str_size]; simp only [List.length_singleton]; omega), str_append]
      have hst := Lib.hid (known_step (name := name) hx)
      have Kp : Hid (seq x.n name = true → check l name pw = seq pw x.p) := Lib.hid fun h => by rw [← seq_true.1 h, hck pw, seq_comm]
      have ekh := Lib.hid ek
      have C0 := Lib.hid (fun W (e : Ext wr W) => (e.cell ((e02.trans ek).cell c0) : W.cell? ⟨g, o + k * 3, none⟩ = _))
      have C1 := Lib.hid (fun W (e : Ext wr W) => (e.cell ((e02.trans ek).cell c1) : W.cell? ⟨g, o + k * 3 + 1, none⟩ = _))
      clear hr c0 c1 hxr hck K ek hx1
      go_upto_region 12 with fail
      go_region_held3 (fun W => W.cell? ⟨g, o + k * 3, none⟩ = some (.string (str x.n)) ∧ W.cell? ⟨g, o + k * 3 + 1, none⟩ = some (.string (str x.p)))
        ((refine (⟨C0.out _ ?_, C1.out _ ?_⟩) <;> (repeat (first | exact Ext.refl _ | with_reducible assumption | refine Ext.drew ?_ | refine Ext.alloc ?_ _ | refine Ext.trans ?_ (by assumption)))))
        (first
          | (go_at_call 13; (with_reducible refine (K1 _ (by (repeat (first | exact Ext.refl _ | with_reducible assumption | refine Ext.drew ?_ | refine Ext.alloc ?_ _ | refine Ext.trans ?_ (by assumption))))).mono ?_); rintro e W5 ⟨rfl, e5⟩)
          | (go_at_call 13; (with_reducible refine (K2 _ (by (repeat (first | exact Ext.refl _ | with_reducible assumption | refine Ext.drew ?_ | refine Ext.alloc ?_ _ | refine Ext.trans ?_ (by assumption))))).mono ?_); rintro e W6 ⟨rfl, e6⟩)
          | (go_at_call 13; (with_reducible refine (K3 _ (by (repeat (first | exact Ext.refl _ | with_reducible assumption | refine Ext.drew ?_ | refine Ext.alloc ?_ _ | refine Ext.trans ?_ (by assumption))))).mono ?_); rintro e W7 ⟨rfl, e7⟩))
      have f7 : Ext wr W7 := (by (repeat (first | exact Ext.refl _ | with_reducible assumption | refine Ext.drew ?_ | refine Ext.alloc ?_ _ | refine Ext.trans ?_ (by assumption))))
      have c0 := C0.out W7 f7
      clear K1 K2 K3 kb e5 e6
      try clear e7
      cases hs : seq x.n name
      · have hst2 := Lib.hid (hst.out.trans (by rw [hs, Bool.or_false]))
        clear hst
        go_wp2
        go_roundw
        case rel => exact ⟨k + 1, by omega, by rw [hst2.out], by go_num, ekh.out.trans f7⟩
        case measure => simp [intOf]; omega
      · have hst2 := Lib.hid (hst.out.trans (by rw [hs, Bool.or_true]))
        clear hst
        go_upto_region 16 with fail
        have K4 := fun W (e : Ext W7 W) => check_any _ l name pw W (hth.out.ext ((ekh.out.trans f7).trans e)) hsp.out hp
        rw [Kp.out hs] at K4
        have C2 := Lib.hid (fun W (e : Ext W7 W) => C1.out W (f7.trans e))
        obtain ⟨b, hb⟩ : ∃ b, b = seq pw x.p := ⟨_, rfl⟩
        rw [← hb] at K4
        have f7h := Lib.hid f7
        clear f7 c0 C0 C1 Kp hs
        go_region_held3 (fun W => W.cell? ⟨g, o + k * 3 + 1, none⟩ = some (.string (str x.p)))
          ((refine C2.out _ ?_; (repeat (first | exact Ext.refl _ | with_reducible assumption | refine Ext.drew ?_ | refine Ext.alloc ?_ _ | refine Ext.trans ?_ (by assumption)))))
          (first
            | (go_at_call 13; (with_reducible refine (K4 _ (by (repeat (first | exact Ext.refl _ | with_reducible assumption | refine Ext.drew ?_ | refine Ext.alloc ?_ _ | refine Ext.trans ?_ (by assumption))))).mono ?_); rintro e W8 ⟨rfl, e8⟩))
        have f8 : Ext W7 W8 := (by (repeat (first | exact Ext.refl _ | with_reducible assumption | refine Ext.drew ?_ | refine Ext.alloc ?_ _ | refine Ext.trans ?_ (by assumption))))
        go_wp2
        go_roundw
        case rel => exact ⟨k + 1, by omega, by rw [hst2.out], by go_num, (ekh.out.trans f7h.out).trans f8⟩
        case measure => simp [intOf]; omega
    · obtain rfl : k = l.length := by omega
      have K5 := check_any _ l name pw _ (hth.out.ext ek) hsp.out hp
      cases hkn : known l name l.length
      · rw [known_all hkn] at K5
        go_wp2_with (go_at_call 13; refine K5.mono ?_; rintro e W5 ⟨rfl, e5⟩)
        go_ret
        exact ⟨rfl, (e02.trans ek).trans e5⟩
      · go_wp2
        go_ret
        exact ⟨rfl, e02.trans ek⟩
end Go.Proofs.Ytnhgkklbjhjggaa
