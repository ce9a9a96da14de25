/- The document's answers on names: parse, find. -/
import Derived.Test.YtmdepmohfnficaaDoorTicketE
namespace Go.Proofs.YtmdepmohfnficaaDoor
open Go.RowKit

theorem preI_nat {k : Nat} (h : Tk.isKind k) : Tk.preI (k : Int) = Tk.pre k := by unfold Tk.preI; rw [Tk.okK_of h]; rfl
theorem refPrefix_nat (k : Nat) (h : Tk.isKind k) (w : World) :
    Calls Tryd.prog 81 #[.int .i64 (k : Int)] w fun e w' => e = .returned (.string (str (Tk.pre k))) ∧ w = w' := by
  rw [← preI_nat h]; exact refPrefix_any _ w
theorem byteAt_app (a b : List UInt8) (i : Nat) : byteAt (a ++ b) (a.length + i) = byteAt b i := by
  unfold byteAt; simp [List.getD, List.getElem?_append_right]
theorem pk_some {s : List UInt8} {k n : Nat} (h : Tk.parse s = some (k, n)) : Tk.pk s = k ∧ Tk.pn s = BitVec.ofNat 64 n ∧ Tk.pok s = true := by
  simp [Tk.pk, Tk.pn, Tk.pok, h]
theorem pk_none {s : List UInt8} (h : Tk.parse s = none) : Tk.pk s = 0 ∧ Tk.pn s = 0#64 ∧ Tk.pok s = false := by
  simp [Tk.pk, Tk.pn, Tk.pok, h]
/-- of a text with a kind's prefix the draw alone is in question -/
theorem parse_head {k : Nat} (hk : Tk.isKind k) (r : List UInt8) (hr : r.length = 16) : Tk.parse (Tk.pre k ++ [45] ++ r) = (Tk.tell 0 r).map fun m => (k, m) := by
  have hc : Tk.cutAt (Tk.pre k ++ [45] ++ r) = (Tk.pre k, some r) := by
    rw [List.append_assoc]; exact Tk.cutAt_dash _ _ (Tk.pre_nodash hk)
  unfold Tk.parse Tk.drawOf Tk.cutR Tk.cutP
  rw [hc]
  simp only [Option.getD_some, if_pos hr, Tk.kindOf_pre hk]
  cases Tk.tell 0 r with
  | none => rfl
  | some m => simp; unfold Tk.isKind at hk; omega
theorem parse_form {s : List UInt8} {k m : Nat} (h : Tk.parse s = some (k, m)) : s = Tk.pre k ++ [45] ++ Tk.digs 16 m := ((Tk.parse_iff _ _ _).1 h).2.2
theorem hexv_lo {c : UInt8} (h1 : (48 : Int) ≤ c.toNat) (h2 : (c.toNat : Int) ≤ 57) : Tk.hexv c = some (c.toNat - 48) := by unfold Tk.hexv; rw [if_pos (by omega)]
theorem hexv_hi {c : UInt8} (h1 : (97 : Int) ≤ c.toNat) (h2 : (c.toNat : Int) ≤ 102) : Tk.hexv c = some (c.toNat - 87) := by unfold Tk.hexv; rw [if_neg (by omega), if_pos (by omega)]
theorem hexv_no {c : UInt8} (h1 : (c.toNat : Int) < 48 ∨ (57 < (c.toNat : Int) ∧ (c.toNat : Int) < 97) ∨ 102 < (c.toNat : Int)) : Tk.hexv c = none := by unfold Tk.hexv; rw [if_neg (by omega), if_neg (by omega)]

/-- how far the document's loop has come -/
structure Told (r : List UInt8) (i : Nat) (z : Int) (b : Bool) : Prop where
  yes : b = true → ∃ m : Nat, z = m ∧ Tk.tell 0 (r.take i) = some m
  no : b = false → Tk.tell 0 (r.take i) = none
theorem Told.next {r : List UInt8} {i m d : Nat} {c : UInt8} (h : Tk.tell 0 (r.take i) = some m) (hi : i < r.length) (hc : byteAt r i = c) (hd : Tk.hexv c = some d) (z : Int) (hz : z = 16 * (m : Int) + d) : Told r (i + 1) z true :=
  ⟨fun _ => ⟨16 * m + d, by omega, by rw [Tk.tell_step r i hi, h, hc, hd]; rfl⟩, nofun⟩
theorem Told.fall {r : List UInt8} {i : Nat} {c : UInt8} (hi : i < r.length) (hc : byteAt r i = c) (hd : Tk.hexv c = none) (z : Int) : Told r (i + 1) z false :=
  ⟨nofun, fun _ => by rw [Tk.tell_step r i hi, hc, hd]; cases Tk.tell 0 (r.take i) <;> rfl⟩
theorem Told.stay {r : List UInt8} {i : Nat} (h : Tk.tell 0 (r.take i) = none) (hi : i < r.length) (z : Int) : Told r (i + 1) z false :=
  ⟨nofun, fun _ => by rw [Tk.tell_step r i hi, h]; rfl⟩

set_option maxRecDepth 20000 in
set_option maxHeartbeats 4000000 in
theorem refParse_any (s : List UInt8) (_ : s.length ≤ 1099511627776) (w : World) :
    Calls Tryd.prog 89 #[.string (str s)] w fun e w' => e = .returned (.tuple #[.int .i64 (Tk.pk s), .int .u64 (V (Tk.pn s)), .bool (Tk.pok s)]) ∧ w = w' := by
  go_enter Tryd.func89, Tryd.ntmps89
  go_wp2
  go_loop [5] (fun kd => ∃ k : Nat, 1 ≤ k ∧ k ≤ 7 ∧ kd = .int .i64 k ∧ RowKit.Hid (∀ j, j < k → ∀ m, Tk.parse s ≠ some (j, m))) (fun kd => 7 - (intOf kd).toNat)
  case atStart => exact ⟨1, by omega, by omega, rfl, Lib.hid (fun j hj m h => by
    have := ((Tk.parse_iff _ _ _).1 h).1; unfold Tk.isKind at this; omega)⟩
  case round =>
    obtain ⟨k, hk1, hk, rfl, hn⟩ := hrel
    by_cases hlt : k < 7
    · have hkd : Tk.isKind k := ⟨hk1, by omega⟩
      have hP6 : (Tk.pre k).length ≤ 6 := by have := Tk.pre_length hkd; omega
      have hnext : (∀ m, Tk.parse s ≠ some (k, m)) → RowKit.Hid (∀ j, j < k + 1 → ∀ m, Tk.parse s ≠ some (j, m)) := fun h => Lib.hid fun j hj m => by
        by_cases e : j = k
        · subst e; exact h m
        · exact hn.out j (by omega) m
      have hform : RowKit.Hid (∀ m, Tk.parse s = some (k, m) → s = Tk.pre k ++ [45] ++ Tk.digs 16 m) := Lib.hid fun m h => parse_form h
      have hhead : RowKit.Hid (∀ r : List UInt8, r.length = 16 → Tk.parse (Tk.pre k ++ [45] ++ r) = (Tk.tell 0 r).map fun m => (k, m)) := Lib.hid fun r hr => parse_head hkd r hr
      have hrp := refPrefix_nat k hkd
      generalize Tk.pre k = P at *
      by_cases hl : s.length = P.length + 1 + 16
      · cases hq : seq (sub s 0 (P.length + 1)) (P ++ [45])
        · have hn2 := hnext fun m h => by
            have h2 := hform.out m h
            apply seq_false.1 hq
            rw [h2]
            unfold sub
            rw [List.drop_zero, List.take_append_of_le_length (by simp), List.take_of_length_le (by simp)]
          clear hnext hform hhead hkd
          go_wp2_with (go_at_call 81; refine (hrp _).mono ?_; rintro e w' ⟨rfl, rfl⟩)
          go_round
          case rel => exact ⟨k + 1, by omega, by omega, by go_num, hn2⟩
          case measure => simp [intOf]; omega
        · obtain ⟨r, hr, hsr⟩ : ∃ r : List UInt8, r.length = 16 ∧ s = P ++ [45] ++ r := by
            refine ⟨s.drop (P.length + 1), by rw [List.length_drop]; omega, ?_⟩
            have h := seq_true.1 hq
            unfold sub at h
            rw [List.drop_zero] at h
            rw [← h, List.take_append_drop]
          have hps := Lib.hid (hsr ▸ hhead.out r hr)
          have hby : RowKit.Hid (∀ i, byteAt s (P.length + 1 + i) = byteAt r i) := Lib.hid fun i => by
            have := byteAt_app (P ++ [45]) r i
            simp only [List.length_append, List.length_cons, List.length_nil, Nat.zero_add] at this
            rw [hsr]; exact this
          clear hsr hform hhead
          have hr2 := Lib.hid hr
          clear hr
          go_wp2_with (go_at_call 81; refine (hrp _).mono ?_; rintro e w' ⟨rfl, rfl⟩)
          go_loop [8, 9, 10] (fun dr rt ix => ∃ (i : Nat) (z : Int) (b : Bool), i ≤ 16 ∧ ix = .int .i64 ((P.length : Int) + 1 + (i : Int)) ∧ dr = .int .u64 z ∧ rt = .bool b ∧ RowKit.Hid (Told r i z b)) (fun _ _ ix => 16 + P.length + 1 - (intOf ix).toNat)
          case atStart => exact ⟨0, 0, true, by omega, by simp, rfl, rfl, Lib.hid ⟨fun _ => ⟨0, rfl, rfl⟩, nofun⟩⟩
          case round =>
            obtain ⟨i, z, b, hi, rfl, rfl, rfl, ht⟩ := hrel
            by_cases hi16 : i < 16
            · obtain ⟨c, hc⟩ : ∃ c, c = byteAt r i := ⟨_, rfl⟩
              have hcr := Lib.hid hc.symm
              have hcs : byteAt s (P.length + 1 + i) = c := by rw [hby.out]; exact hc.symm
              have hct : byteAt s ((P.length : Int) + 1 + (i : Int)).toNat = c := by
                rw [← hcs]; congr 1
              have hir := Lib.hid (show i < r.length by rw [hr2.out]; exact hi16)
              clear hc hby
              have hcase : ((c.toNat : Int) < 48) ∨ ((48 : Int) ≤ c.toNat ∧ (c.toNat : Int) ≤ 57) ∨ ((57 : Int) < c.toNat ∧ (c.toNat : Int) < 97) ∨ ((97 : Int) ≤ c.toNat ∧ (c.toNat : Int) ≤ 102) ∨ ((102 : Int) < c.toNat) := by omega
              have hcl := byte_lt c
              have hc0 : (0 : Int) ≤ c.toNat := by omega
              cases b
              · have hno := Lib.hid (ht.out.no rfl)
                rcases hcase with h1 | ⟨h1, h2⟩ | ⟨h1, h2⟩ | ⟨h1, h2⟩ | h1
                all_goals
                  go_wp2
                  go_round
                  case rel => exact ⟨i + 1, _, false, by omega, by go_num, rfl, rfl, Lib.hid (Told.stay hno.out hir.out _)⟩
                  case measure => simp [intOf]; omega
              · obtain ⟨m, rfl, hm⟩ := ht.out.yes rfl
                have hm60 : m < 2 ^ 60 := by
                  have hb := Tk.tell_lt _ _ hm
                  rw [List.length_take] at hb
                  exact Nat.lt_of_lt_of_le hb (Nat.le_trans (Nat.pow_le_pow_right (by decide) (show min i r.length ≤ 15 by omega)) (by decide))
                have hm60' : m < 1152921504606846976 := hm60
                clear hm60
                have hm2 := Lib.hid hm
                clear hm ht
                rcases hcase with h1 | ⟨h1, h2⟩ | ⟨h1, h2⟩ | ⟨h1, h2⟩ | h1
                case inl =>
                  have hx := Lib.hid (hexv_no (.inl h1))
                  go_wp2
                  go_round
                  case rel => exact ⟨i + 1, _, false, by omega, by go_num, rfl, rfl, Lib.hid (Told.fall hir.out hcr.out hx.out _)⟩
                  case measure => simp [intOf]; omega
                case inr.inl =>
                  have hx := Lib.hid (hexv_lo h1 h2)
                  go_wp2
                  go_round
                  case rel => exact ⟨i + 1, _, true, by omega, by go_num, rfl, rfl, Lib.hid (Told.next hm2.out hir.out hcr.out hx.out _ (by omega))⟩
                  case measure => simp [intOf]; omega
                case inr.inr.inl =>
                  have hx := Lib.hid (hexv_no (.inr (.inl ⟨h1, h2⟩)))
                  go_wp2
                  go_round
                  case rel => exact ⟨i + 1, _, false, by omega, by go_num, rfl, rfl, Lib.hid (Told.fall hir.out hcr.out hx.out _)⟩
                  case measure => simp [intOf]; omega
                case inr.inr.inr.inl =>
                  have hx := Lib.hid (hexv_hi h1 h2)
                  go_wp2
                  go_round
                  case rel => exact ⟨i + 1, _, true, by omega, by go_num, rfl, rfl, Lib.hid (Told.next hm2.out hir.out hcr.out hx.out _ (by omega))⟩
                  case measure => simp [intOf]; omega
                case inr.inr.inr.inr =>
                  have hx := Lib.hid (hexv_no (.inr (.inr h1)))
                  go_wp2
                  go_round
                  case rel => exact ⟨i + 1, _, false, by omega, by go_num, rfl, rfl, Lib.hid (Told.fall hir.out hcr.out hx.out _)⟩
                  case measure => simp [intOf]; omega
            · obtain rfl : i = 16 := by omega
              have hfull := Lib.hid (show r.take 16 = r from List.take_of_length_le (by rw [hr2.out]; exact Nat.le_refl _))
              cases b
              · have hn2 := hnext fun m h => by
                  rw [hps.out, ← hfull.out, ht.out.no rfl] at h
                  cases h
                clear hnext hby
                go_wp2
                go_round
                case rel => exact ⟨k + 1, by omega, by omega, by go_num, hn2⟩
                case measure => simp [intOf]; omega
              · obtain ⟨m, rfl, hm⟩ := ht.out.yes rfl
                rw [hfull.out] at hm
                have hpk := Lib.hid (pk_some (by rw [hps.out, hm]; rfl))
                have hm64 : V (BitVec.ofNat 64 m) = m := by
                  have hb := Tk.tell_lt _ _ hm
                  rw [hr2.out] at hb
                  unfold V; rw [BitVec.toNat_ofNat]
                  have : (16 : Nat) ^ 16 = 2 ^ 64 := by decide
                  omega
                have hm64' := Lib.hid hm64
                clear hnext hby hm ht hm64
                go_wp2
                go_ret3
                exact ⟨by rw [hpk.out.1, hpk.out.2.1, hpk.out.2.2, hm64'.out]; rfl, rfl⟩
      · have hn2 := hnext fun m h => by
          have := congrArg List.length (hform.out m h)
          simp [Tk.digs_length] at this
          omega
        have hb : ((s.length : Int) != (P.length : Int) + 1 + 16) = true := by
          have : (s.length : Int) ≠ (P.length : Int) + 1 + 16 := by omega
          simp [bne_iff_ne, this]
        clear hnext hform hhead hl hkd
        go_wp2_with (go_at_call 81; refine (hrp _).mono ?_; rintro e w' ⟨rfl, rfl⟩)
        go_round
        case rel => exact ⟨k + 1, by omega, by omega, by go_num, hn2⟩
        case measure => simp [intOf]; omega
    · obtain rfl : k = 7 := by omega
      have hp : Tk.parse s = none := by
        cases h : Tk.parse s with
        | none => rfl
        | some km =>
          obtain ⟨j, m⟩ := km
          have hj := ((Tk.parse_iff _ _ _).1 h).1
          unfold Tk.isKind at hj
          exact absurd h (hn.out j (by omega) m)
      have hpk := Lib.hid (pk_none hp)
      clear hp
      go_wp2
      go_ret3
      exact ⟨by rw [hpk.out.1, hpk.out.2.1, hpk.out.2.2]; rfl, rfl⟩
end Go.Proofs.YtmdepmohfnficaaDoor
