/- The contracts of package ticket, fourth part: find; texts. -/
import Derived.Test.YtmdepmohfnficaaDoorTicketC
import Derived.Test.YtmdepmohfnficaaDoorTicketMath3
namespace Go.Proofs.YtmdepmohfnficaaDoor
open Go.RowKit

theorem sv_one : ∀ x : List UInt8, (sv x).oneCell' = true := fun _ => rfl

/-! ### are lists of texts one? -/
set_option maxHeartbeats 400000 in
theorem texts_any (v u : Value) (l m : List (List UInt8)) (w : World) (hb : Sl sv w v l) (hc : Sl sv w u m) :
    Calls Tryd.prog 28 #[v, u] w fun e w' => e = .returned (.bool (Tk.teq l m)) ∧ Ext w w' := by
  have e0 := Ext.refl w
  obtain ⟨a, cap, rfl, hb⟩ := hb
  obtain ⟨b, cap', rfl, hc⟩ := hc
  have hlen := hb.len
  have hlen2 := hc.len
  by_cases hne : l.length = m.length
  · have hfl : ((l.length : Int) != (m.length : Int)) = false := by simp [hne]
    obtain ⟨L, hL⟩ : ∃ L, L = l.length := ⟨_, rfl⟩
    have hL2 : L = m.length := by omega
    rw [← hL] at hfl hlen ⊢
    go_enter Tryd.func28, Tryd.ntmps28
    go_wp2
    go_loopw [5] (fun i wr => ∃ k : Nat, k ≤ L ∧ i = .int .i64 k ∧ Ext w wr ∧ RowKit.Hid (∀ j, j < k → l[j]? = m[j]?)) (fun i _ => L - (intOf i).toNat)
    case atStart => exact ⟨0, Nat.zero_le _, rfl, e0, Lib.hid (fun j hj => by omega)⟩
    case round =>
      obtain ⟨k, hk, rfl, ek, hn⟩ := hrel
      by_cases hlt : k < L
      · obtain ⟨x, hx⟩ : ∃ x, l[k]? = some x := ⟨l[k]'(by omega), List.getElem?_eq_getElem (by omega)⟩
        obtain ⟨y, hy⟩ : ∃ y, m[k]? = some y := ⟨m[k]'(by omega), List.getElem?_eq_getElem (by omega)⟩
        obtain ⟨g, o, rfl, hcell⟩ := (hb.ext ek).cells k x hx
        obtain ⟨g', o', rfl, hcell'⟩ := (hc.ext ek).cells k y hy
        unfold sv at hcell hcell'
        cases hs : seq x y
        · have hfin : RowKit.Hid (Tk.teq l m = false) := Lib.hid (Tk.teq_false.2 fun e => seq_false.1 hs (by subst e; rw [hx] at hy; cases hy; rfl))
          clear hx hy
          go_wp2_with go_region
          go_ret
          exact ⟨by rw [hfin.out]; rfl, ek.drew⟩
        · have hn2 : RowKit.Hid (∀ j, j < k + 1 → l[j]? = m[j]?) := Lib.hid (by
            intro j hj
            by_cases hjk : j = k
            · subst hjk; rw [hx, hy, seq_true.1 hs]
            · exact hn.out j (by omega))
          clear hx hy
          go_wp2_with go_region
          go_roundw
          case rel => exact ⟨k + 1, by omega, by go_num, ek.drew, hn2⟩
          case measure => simp [intOf]; omega
      · have hfin : RowKit.Hid (Tk.teq l m = true) := Lib.hid (Tk.teq_true.2 (List.ext_getElem? fun j => by
          by_cases hj : j < k
          · exact hn.out j hj
          · rw [List.getElem?_eq_none (by omega), List.getElem?_eq_none (by omega)]))
        go_wp2
        go_ret
        exact ⟨by rw [hfin.out]; rfl, ek⟩
  · have hfin : RowKit.Hid (Tk.teq l m = false) := Lib.hid (Tk.teq_false.2 fun e => hne (by rw [e]))
    have hfl : ((l.length : Int) != (m.length : Int)) = true := by
      have : (l.length : Int) ≠ m.length := by omega
      simp [bne_iff_ne, this]
    clear hne
    go_enter Tryd.func28, Tryd.ntmps28
    go_wp2
    go_ret
    exact ⟨by rw [hfin.out]; rfl, e0⟩

/-! ### names within a text -/
theorem hl6 : (Tk.pres.tail).length = 6 := rfl
end Go.Proofs.YtmdepmohfnficaaDoor
