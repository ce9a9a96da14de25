/- The document's answer on names within a text; the chapter's examples. -/
import Derived.Test.YtkpcdbalhpmpmaaDoorTicketF
namespace Go.Proofs.YtkpcdbalhpmpmaaDoor
open Go.RowKit

theorem range_step (m : Nat) : List.range' 18 (m + 1) = List.range' 18 m ++ [18 + m] := by
  rw [List.range'_concat]; simp
theorem acc_range (t : List UInt8) (m : Nat) (h : m = 6 ∨ t.length < 18 + m) : Tk.acc t (List.range' 18 m) = Tk.sz t :=
  Tk.acc_full _ _ fun n hn => by
    have h1 := ((Tk.hits_iff _ _).1 hn).1
    have h2 := Tk.hits_sizes hn
    rw [List.mem_range'_1]
    omega
set_option maxRecDepth 20000 in
set_option maxHeartbeats 4000000 in
theorem refFind_any (s : List UInt8) (hs : s.length ≤ 1099511627776) (w : World) :
    Calls Tryd.prog 23 #[.string (str s)] w (Ret fun v w' => Sl sv w' v (Tk.find s) ∧ Ext w w') := by
  have e0 := Ext.refl w
  go_enter Tryd.func23, Tryd.ntmps23
  go_wp2
  go_loopw [3, 4] (fun out at_ wr => ∃ (k : Nat) (l : List (List UInt8)), k ≤ s.length ∧ at_ = .int .i64 k ∧ l.length ≤ k ∧ Own sv 9 wr w.heap.size out l ∧ Ext w wr ∧ RowKit.Hid (l ++ Tk.find (s.drop k) = Tk.find s)) (fun _ at_ _ => s.length - (intOf at_).toNat)
  case atStart => exact ⟨0, [], Nat.zero_le _, rfl, by simp, Own.nil _ _ _, e0, Lib.hid rfl⟩
  case round =>
    obtain ⟨k, l, hk, rfl, hlk, ho, ek, hf⟩ := hrel
    by_cases hlt : k < s.length
    · go_wp2
      go_loop [5, 6] (fun n i => ∃ (m : Nat) , m ≤ 6 ∧ i = .int .i64 (18 + (m : Int)) ∧ n = .int .i64 (Tk.acc (s.drop k) (List.range' 18 m) : Nat)) (fun _ i => 24 - (intOf i).toNat)
      case atStart => exact ⟨0, by omega, rfl, rfl⟩
      case round =>
        obtain ⟨m, hm, rfl, rfl⟩ := hrel
        by_cases hm6 : m < 6 ∧ k + (18 + m) ≤ s.length
        · obtain ⟨hm7, hfit⟩ := hm6
          have hl : (sub s k (k + (18 + m))).length ≤ 1099511627776 := by unfold sub; rw [List.length_drop, List.length_take]; omega
          have hq := Tk.hits_at s k (18 + m) (by omega)
          have hsz := Lib.hid (range_step m)
          cases hp : Tk.pok (sub s k (k + (18 + m)))
          · have ha := Lib.hid (Tk.acc_miss (s.drop k) (List.range' 18 m) _ (hq.trans hp))
            clear hq
            go_wp2_with (go_at_call 19; refine (refParse_any _ hl _).mono ?_; rintro e w' ⟨rfl, rfl⟩)
            go_round
            case rel => exact ⟨m + 1, by omega, by go_num, by rw [hsz.out, ha.out]⟩
            case measure => simp [intOf]; omega
          · have ha := Lib.hid (Tk.acc_hit (s.drop k) (List.range' 18 m) _ (hq.trans hp))
            clear hq
            go_wp2_with (go_at_call 19; refine (refParse_any _ hl _).mono ?_; rintro e w' ⟨rfl, rfl⟩)
            go_round
            case rel => exact ⟨m + 1, by omega, by go_num, by rw [hsz.out, ha.out]; go_num⟩
            case measure => simp [intOf]; omega
        · have hacc : Tk.acc (s.drop k) (List.range' 18 m) = Tk.sz (s.drop k) := acc_range _ _ (by rw [List.length_drop]; omega)
          have hle := Tk.sz_le (s.drop k)
          have h23 := Tk.sz_23 (s.drop k)
          rw [List.length_drop] at hle
          have hz0 : Tk.sz (s.drop k) = 0 → RowKit.Hid (l ++ Tk.find (s.drop (k + 1)) = Tk.find s) := fun h => Lib.hid (by
            rw [← hf.out, Tk.find_short h, List.drop_drop])
          have hz1 : Tk.sz (s.drop k) ≠ 0 → RowKit.Hid ((l ++ [(s.drop k).take (Tk.sz (s.drop k))]) ++ Tk.find (s.drop (k + Tk.sz (s.drop k))) = Tk.find s) := fun h => Lib.hid (by
            rw [← hf.out, Tk.find_take h, List.drop_drop]; simp)
          rw [hacc]
          clear hacc hf
          generalize Tk.sz (s.drop k) = z at *
          have hstop : m = 6 ∨ m < 6 ∧ s.length < k + (18 + m) := by omega
          clear hm6
          by_cases hz : z = 0
          · subst hz
            have hf := hz0 rfl
            clear hz0 hz1
            rcases hstop with rfl | ⟨hs1, hs2⟩
            all_goals
              go_wp2
              go_roundw
              case rel => exact ⟨k + 1, l, by omega, by go_num, by omega, ho, ek, hf⟩
              case measure => simp [intOf]; omega
          · have hf := hz1 hz
            have hz2 : 1 ≤ z := by omega
            clear hz0 hz1 hz
            rcases hstop with rfl | ⟨hs1, hs2⟩
            all_goals
              go_wp2_with (at_builtin; refine wpList_appendS (z := .string ⟨#[]⟩) (bytes := 16) Tryd.underlying28 (by kernel_rfl) rfl sv_one rfl _ _ rfl w.heap.size _ l rfl (ho.alloc _) _ [sub s k (k + z)] rfl (Sl.lit (by rfl) rfl rfl (by decide) (by decide)) (by simp; omega) (by simp; omega) ((ek.alloc _).size) ?_; intro v' w' g1 g2)
              go_roundw
              case rel => exact ⟨k + z, _, by omega, by go_num, by simp; omega, g1, Ext.owns (ek.alloc _) (ho.alloc _) g2, by rw [Tk.sub_drop]; exact hf⟩
              case measure => simp [intOf]; omega
    · obtain rfl : k = s.length := by omega
      have hf2 : RowKit.Hid (l = Tk.find s) := Lib.hid (by rw [← hf.out, List.drop_length, Tk.find_nil, List.append_nil])
      go_wp2
      go_ret
      exact Ret.mk ⟨by rw [← hf2.out]; exact ho.sl, ek⟩
end Go.Proofs.YtkpcdbalhpmpmaaDoor
