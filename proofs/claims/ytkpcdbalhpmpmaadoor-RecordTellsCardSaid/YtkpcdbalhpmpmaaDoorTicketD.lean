/- The contracts of package ticket, fourth part: find; texts. -/
import Derived.Test.YtkpcdbalhpmpmaaDoorTicketC
import Derived.Test.YtkpcdbalhpmpmaaDoorTicketMath3
namespace Go.Proofs.YtkpcdbalhpmpmaaDoor
open Go.RowKit

theorem sv_one : ∀ x : List UInt8, (sv x).oneCell' = true := fun _ => rfl

/-! ### are lists of texts one? -/
set_option maxHeartbeats 400000 in
theorem texts_any (v u : Value) (l m : List (List UInt8)) (w : World) (hb : Sl sv w v l) (hc : Sl sv w u m) :
    Calls Tryd.prog 15 #[v, u] w fun e w' => e = .returned (.bool (Tk.teq l m)) ∧ Ext w w' := by
  have e0 := Ext.refl w
  obtain ⟨a, cap, rfl, hb⟩ := hb
  obtain ⟨b, cap', rfl, hc⟩ := hc
  have hlen := hb.len
  have hlen2 := hc.len
  by_cases hne : l.length = m.length
  · have hfl : ((l.length : Int) != (m.length : Int)) = false := by simp [hne]
    obtain ⟨L, hL⟩ : ∃ L, L = l.length := ⟨_, rfl⟩
    have hL2 : L = m.length := by omega
    rw [← hL] at hfl hlen ⊢
    go_enter Tryd.func15, Tryd.ntmps15
    go_wp2
    go_loopw [5] (fun i wr => ∃ k : Nat, k ≤ L ∧ i = .int .i64 k ∧ Ext w wr ∧ RowKit.Hid (∀ j, j < k → l[j]? = m[j]?)) (fun i _ => L - (intOf i).toNat)
    case atStart => exact ⟨0, Nat.zero_le _, rfl, e0, Lib.hid (fun j hj => by omega)⟩
    case round =>
      obtain ⟨k, hk, rfl, ek, hn⟩ := hrel
      by_cases hlt : k < L
      · obtain ⟨x, hx⟩ : ∃ x, l[k]? = some x := ⟨l[k]'(by omega), List.getElem?_eq_getElem (by omega)⟩
        obtain ⟨y, hy⟩ : ∃ y, m[k]? = some y := ⟨m[k]'(by omega), List.getElem?_eq_getElem (by omega)⟩
        obtain ⟨g, o, rfl, hcell⟩ := (hb.ext ek).cells k x hx
        obtain ⟨g', o', rfl, hcell'⟩ := (hc.ext ek).cells k y hy
        unfold sv at hcell hcell'
        cases hs : seq x y
        · have hfin : RowKit.Hid (Tk.teq l m = false) := Lib.hid (Tk.teq_false.2 fun e => seq_false.1 hs (by subst e; rw [hx] at hy; cases hy; rfl))
          clear hx hy
          go_wp2_with go_region
          go_ret
          exact ⟨by rw [hfin.out]; rfl, ek.drew⟩
        · have hn2 : RowKit.Hid (∀ j, j < k + 1 → l[j]? = m[j]?) := Lib.hid (by
            intro j hj
            by_cases hjk : j = k
            · subst hjk; rw [hx, hy, seq_true.1 hs]
            · exact hn.out j (by omega))
          clear hx hy
          go_wp2_with go_region
          go_roundw
          case rel => exact ⟨k + 1, by omega, by go_num, ek.drew, hn2⟩
          case measure => simp [intOf]; omega
      · have hfin : RowKit.Hid (Tk.teq l m = true) := Lib.hid (Tk.teq_true.2 (List.ext_getElem? fun j => by
          by_cases hj : j < k
          · exact hn.out j hj
          · rw [List.getElem?_eq_none (by omega), List.getElem?_eq_none (by omega)]))
        go_wp2
        go_ret
        exact ⟨by rw [hfin.out]; rfl, ek⟩
  · have hfin : RowKit.Hid (Tk.teq l m = false) := Lib.hid (Tk.teq_false.2 fun e => hne (by rw [e]))
    have hfl : ((l.length : Int) != (m.length : Int)) = true := by
      have : (l.length : Int) ≠ m.length := by omega
      simp [bne_iff_ne, this]
    clear hne
    go_enter Tryd.func15, Tryd.ntmps15
    go_wp2
    go_ret
    exact ⟨by rw [hfin.out]; rfl, e0⟩

/-! ### names within a text -/
theorem hl6 : (Tk.pres.tail).length = 6 := rfl
set_option maxHeartbeats 1600000 in
theorem find_any (s : List UInt8) (hs : s.length ≤ 1099511627776) (w : World) (hw : Pres w) :
    Calls Tryd.prog 16 #[.string (str s)] w (Ret fun v w' => Sl sv w' v (Tk.find s) ∧ Ext w w') := by
  have e0 := Ext.refl w
  go_enter Tryd.func16, Tryd.ntmps16
  go_wp2
  go_loopw [3, 4] (fun out at_ wr => ∃ (k : Nat) (l : List (List UInt8)), k ≤ s.length ∧ at_ = .int .i64 k ∧ l.length ≤ k ∧ Own sv 9 wr w.heap.size out l ∧ Ext w wr ∧ RowKit.Hid (l ++ Tk.find (s.drop k) = Tk.find s)) (fun _ at_ _ => s.length - (intOf at_).toNat)
  case atStart => exact ⟨0, [], Nat.zero_le _, rfl, by simp, Own.nil _ _ _, e0, Lib.hid rfl⟩
  case round =>
    obtain ⟨k, l, hk, rfl, hlk, ho, ek, hf⟩ := hrel
    by_cases hlt : k < s.length
    · go_wp2
      go_loopw [5, 18] (fun n i wq => ∃ (j : Nat) , j ≤ 6 ∧ i = .int .i64 j ∧ n = .int .i64 (Tk.acc (s.drop k) (Tk.sizes.take j) : Nat) ∧ Ext wr wq) (fun _ i _ => 6 - (intOf i).toNat)
      case atStart => exact ⟨0, by omega, rfl, rfl, Ext.refl _⟩
      case round =>
        obtain ⟨j, hj, rfl, rfl, eq⟩ := hrel
        by_cases hj6 : j < 6
        · have hc := (hw.ext (ek.trans eq)) (1 + j) (by omega)
          have hP6 : (Tk.pre (1 + j)).length ≤ 6 := by have := Tk.pre_length (k := 1 + j) (by unfold Tk.isKind; omega); omega
          have hsz : RowKit.Hid (Tk.sizes.take (j + 1) = Tk.sizes.take j ++ [(Tk.pre (1 + j)).length + 1 + 16]) := Lib.hid (by
            have : ∀ j, j < 6 → Tk.sizes.take (j + 1) = Tk.sizes.take j ++ [(Tk.pre (1 + j)).length + 1 + 16] := by decide
            exact this j hj6)
          generalize Tk.pre (1 + j) = P at *
          by_cases hfit : k + (P.length + 17) ≤ s.length
          · have hl : (sub s k (k + (P.length + 1 + 16))).length ≤ 9223372036854775807 := by unfold sub; rw [List.length_drop, List.length_take]; omega
            have hq := Tk.hits_at s k (P.length + 1 + 16) (by omega)
            cases hp : Tk.pok (sub s k (k + (P.length + 1 + 16)))
            · have ha := Lib.hid (Tk.acc_miss (s.drop k) (Tk.sizes.take j) _ (hq.trans hp))
              clear hq
              go_wp2_with (go_at_call 18; refine (parse_any _ hl _ (hw.ext (ek.trans eq))).mono ?_; rintro e w' ⟨rfl, h⟩)
              go_roundw
              case rel => exact ⟨j + 1, by omega, by go_num, by rw [hsz.out, ha.out], eq.trans h⟩
              case measure => simp [intOf]; omega
            · have ha := Lib.hid (Tk.acc_hit (s.drop k) (Tk.sizes.take j) _ (hq.trans hp))
              clear hq
              go_wp2_with (go_at_call 18; refine (parse_any _ hl _ (hw.ext (ek.trans eq))).mono ?_; rintro e w' ⟨rfl, h⟩)
              go_roundw
              case rel => exact ⟨j + 1, by omega, by go_num, by rw [hsz.out, ha.out]; rfl, eq.trans h⟩
              case measure => simp [intOf]; omega
          · have ha := Lib.hid (Tk.acc_miss (s.drop k) (Tk.sizes.take j) _ (Tk.hits_out s k (P.length + 1 + 16) hk (by omega)))
            go_wp2
            go_roundw
            case rel => exact ⟨j + 1, by omega, by go_num, by rw [hsz.out, ha.out], eq⟩
            case measure => simp [intOf]; omega
        · obtain rfl : j = 6 := by omega
          have hacc : Tk.acc (s.drop k) (Tk.sizes.take 6) = Tk.sz (s.drop k) := Tk.sizes_full _
          have hle := Tk.sz_le (s.drop k)
          have h23 := Tk.sz_23 (s.drop k)
          rw [List.length_drop] at hle
          have hz0 : Tk.sz (s.drop k) = 0 → RowKit.Hid (l ++ Tk.find (s.drop (k + 1)) = Tk.find s) := fun h => Lib.hid (by
            rw [← hf.out, Tk.find_short h, List.drop_drop])
          have hz1 : Tk.sz (s.drop k) ≠ 0 → RowKit.Hid ((l ++ [(s.drop k).take (Tk.sz (s.drop k))]) ++ Tk.find (s.drop (k + Tk.sz (s.drop k))) = Tk.find s) := fun h => Lib.hid (by
            rw [← hf.out, Tk.find_take h, List.drop_drop]; simp)
          rw [hacc]
          clear hacc hf
          generalize Tk.sz (s.drop k) = z at *
          by_cases hz : z = 0
          · subst hz
            have hf := hz0 rfl
            clear hz0 hz1
            go_wp2
            go_roundw
            case rel => exact ⟨k + 1, l, by omega, by go_num, by omega, ho.ext eq, ek.trans eq, hf⟩
            case measure => simp [intOf]; omega
          · have hf := hz1 hz
            have hzb : ((z : Int) == 0) = false := by rw [beq_eq_false_iff_ne]; omega
            have hz2 : 1 ≤ z := by omega
            clear hz0 hz1 hz
            go_wp2_with (at_builtin; refine wpList_appendS (z := .string ⟨#[]⟩) (bytes := 16) Tryd.underlying28 (by kernel_rfl) rfl sv_one rfl _ _ rfl w.heap.size _ l rfl ((ho.ext eq).alloc _) _ [sub s k (k + z)] rfl (Sl.lit (by rfl) rfl rfl (by decide) (by decide)) (by simp; omega) (by simp; omega) (((ek.trans eq).alloc _).size) ?_; intro v' w' g1 g2)
            go_roundw
            case rel => exact ⟨k + z, _, by omega, by go_num, by simp; omega, g1, Ext.owns ((ek.trans eq).alloc _) ((ho.ext eq).alloc _) g2, by rw [Tk.sub_drop]; exact hf⟩
            case measure => simp [intOf]; omega
    · obtain rfl : k = s.length := by omega
      have hf2 : RowKit.Hid (l = Tk.find s) := Lib.hid (by rw [← hf.out, List.drop_length, Tk.find_nil, List.append_nil])
      go_wp2
      go_ret
      exact Ret.mk ⟨by rw [← hf2.out]; exact ho.sl, ek⟩
end Go.Proofs.YtkpcdbalhpmpmaaDoor
