/- Package tree: at, Get. -/
import Derived.Test.YtmdepmohfnficaaDoorTrA
import Derived.Deep.DeepCutAuto
import Derived.Deep.CutBlock
namespace Go.Proofs.YtmdepmohfnficaaDoor
open Go.RowKit Rk Tr

attribute [local irreducible] rcells
set_option maxHeartbeats 1000000 in
theorem indexAt_any (v : Value) (l : List Rec) (n : List UInt8) (B : Nat) (w : World) (h : Recs w v l) (hB : w.cell? ⟨B, 0, none⟩ = some (.string (str n))) :
    Calls Tryd.prog 85 #[v, .func (.func 86) #[] #[.pointer (some ⟨B, 0, none⟩)]] w fun e w' => e = .returned (.int .i64 (atI l n)) ∧ Ext w w' := by
  obtain ⟨a, cap, rfl, hlen, hget⟩ := Rw.shape h
  have hgh := Lib.hid hget
  clear hget h
  have e0 := Ext.refl w
  go_enter Tryd.func85, Tryd.ntmps85
  go_wp2
  go_loopw [8] (fun i wr => ∃ k : Nat, k ≤ l.length ∧ i = .int .i64 (k : Int) ∧ RowKit.Hid (∀ j x, j < k → l[j]? = some x → seq x.name n = false) ∧ Ext w wr) (fun i _ => l.length - (intOf i).toNat)
  case atStart => exact ⟨0, Nat.zero_le _, rfl, Lib.hid fun j x hj => by omega, e0⟩
  case round =>
    obtain ⟨k, hk, rfl, hno, ek⟩ := hrel
    clear e0
    by_cases hlt : k < l.length
    · obtain ⟨x, hx⟩ := some_at hlt
      obtain ⟨g, o, cs, rfl, hr, rfl, hf⟩ := hgh.out k x hx
      have hki : (k : Int) < (l.length : Int) := by omega
      have hw : IntKind.i64.wrap ((k : Int) + 1) = (k : Int) + 1 := by rw [IntKind.wrap_i64]; omega
      have hr2 : wr.rangeAt g (o + k * 10) (prow x) := fun i u hu => ek.cell (hr i u hu)
      have hat := at1_any x n B wr (ek.cell hB)
      have hit := Lib.hid (fun h => idx_hit hno.out hx h : seq x.name n = true → idx (fun r => seq r.name n) l = (k : Int))
      have hnx := Lib.hid (fun h => (fun j y hj hy => if e : j = k then by subst e; rw [hx] at hy; cases hy; exact h else hno.out j y (by omega) hy) : seq x.name n = false → ∀ j y, j < k + 1 → l[j]? = some y → seq y.name n = false)
      clear hr hx hf hno
      cases hs : seq x.name n
      · rw [hs] at hat
        have hnx2 := Lib.hid (hnx.out hs)
        clear hnx hit
        go_wp2_with (first
          | (refine wpList_load_rec (by rfl) _ rfl g (o + k * 10) rfl x hr2 ?_)
          | (go_at_call 86; refine hat.mono ?_; rintro e w2 ⟨rfl, e2⟩))
        go_roundw
        case rel => exact ⟨k + 1, by omega, by go_num, Lib.hid hnx2.out, ek.trans e2⟩
        case measure => simp [intOf]; omega
      · rw [hs] at hat
        have hit2 := Lib.hid (hit.out hs)
        clear hnx hit
        go_wp2_with (first
          | (refine wpList_load_rec (by rfl) _ rfl g (o + k * 10) rfl x hr2 ?_)
          | (go_at_call 86; refine hat.mono ?_; rintro e w2 ⟨rfl, e2⟩))
        go_ret
        exact ⟨by unfold atI; rw [hit2.out]; rfl, ek.trans e2⟩
    · obtain rfl : k = l.length := by omega
      have hm := Lib.hid (idx_miss hno.out)
      go_wp2
      go_ret
      exact ⟨by unfold atI; rw [hm.out]; rfl, ek⟩
theorem cell_at {w : World} {g : Nat} {cs : Array Value} {T : TypeId} {fr : Nat × Nat} (h : w.heap[g]? = some (.cells cs T fr)) (i : Nat) {u : Value} (hu : cs[i]? = some u) : w.cell? ⟨g, i, none⟩ = some u := by rw [cell_of_row w g i _ _ _ h, hu]
theorem TrM.parts {T : TypeId} {w : World} {F : Nat → Prop} {p room : Nat} {l : List Rec} (h : TrM T w F p room l) : ∃ a cap, w.cell? ⟨p, 0, none⟩ = some (.int .i64 (room : Int)) ∧ w.cell? ⟨p, 1, none⟩ = some (.slice a l.length cap) ∧ Recs w (.slice a l.length cap) l := by
  obtain ⟨v, h1, -, h3⟩ := h
  obtain ⟨a, cap, rfl⟩ := h3.shape
  exact ⟨a, cap, cell_at h1 0 rfl, cell_at h1 1 rfl, h3.recs⟩
theorem at_any {F : Nat → Prop} {p room : Nat} {l : List Rec} (n : List UInt8) {w : World} (h : TrM 96 w F p room l) :
    Calls Tryd.prog 61 #[.pointer (some ⟨p, 0, none⟩), .string (str n)] w fun e w' => e = .returned (.int .i64 (atI l n)) ∧ Ext w w' := by
  obtain ⟨a, cap, -, c1, hr⟩ := h.parts
  have e1 := (Ext.refl w).alloc (.cells #[.string (str n)] 9)
  have hi := indexAt_any _ l n w.heap.size _ (hr.ext e1) (cell_at (heap_alloc_new w _) 0 rfl)
  have c2 := e1.cell c1
  clear hr c1 h
  go_enter Tryd.func61, Tryd.ntmps61
  go_wp2_with (go_at_call 85; refine hi.mono ?_; rintro e w2 ⟨rfl, e2⟩)
  go_ret
  exact ⟨rfl, e1.trans e2⟩
set_option maxHeartbeats 1000000 in
theorem clone_any (v : Value) (l : List Rec) (w : World) (h : Recs w v l) (hl : l.length ≤ 1000) :
    Calls Tryd.prog 62 #[v] w (Ret fun u w' => OwnR w' (fun k => w.heap.size ≤ k) u l ∧ (∃ a cap, u = .slice a l.length cap) ∧ Ext w w') := by
  have hp := h
  have e0 := Ext.refl w
  have hq : ∀ (W : World) (a : Option Addr) (n c : Nat), (binOp .eql 22 (.slice a n c) (.slice none 0 0)).run Tryd.prog W = .ok (.bool a.isNone) W := fun W a n c => by
    simp only [binOp]
    simp [run_equal_slice_nil W 22 36 a n c Tryd.underlying22]
  obtain ⟨a, cap, rfl, h2, h3, h4, h5⟩ := h
  cases a with
  | none =>
    have hc := h4 rfl
    subst hc
    obtain rfl : l = [] := List.eq_nil_of_length_eq_zero (by omega)
    go_enter Tryd.func62, Tryd.ntmps62
    go_wp2
    go_ret
    exact Ret.mk ⟨OwnR.nil w _, ⟨_, _, rfl⟩, e0⟩
  | some ad =>
    have hpp := Lib.hid hp
    have heh := Lib.hid (e0.alloc (.cells #[] 36))
    have hown := Lib.hid (OwnR.empty (w := w) (F := fun k => w.heap.size ≤ k) rfl (Nat.le_refl _))
    clear hp h5 e0 h2 h3
    go_enter Tryd.func62, Tryd.ntmps62
    go_wp2_with (refine wpList_appendR (by rfl) _ _ rfl (fun k => w.heap.size ≤ k) _ [] rfl hown.out _ l rfl (hpp.out.ext heh.out) (by simp; omega) ?_; intro v' w' g1 g2; obtain ⟨a', cap', rfl⟩ := g1.shape)
    go_ret
    refine Ret.mk ⟨?_, ⟨_, _, rfl⟩, heh.out.chg g2 fun _ h => h⟩
    rw [List.nil_append] at g1
    exact g1.mono fun k hk => hk.elim id fun h => Nat.le_trans ((Ext.refl w).alloc _).size h
theorem all_any {F : Nat → Prop} {p room : Nat} {l : List Rec} {w : World} (h : TrM 96 w F p room l) (hl : l.length ≤ 1000) :
    Calls Tryd.prog 25 #[.pointer (some ⟨p, 0, none⟩)] w (Ret fun u w' => OwnR w' (fun k => w.heap.size ≤ k) u l ∧ (∃ a cap, u = .slice a l.length cap) ∧ Ext w w') := by
  obtain ⟨a, cap, -, c1, hr⟩ := h.parts
  have hc := clone_any _ l w hr hl
  clear hr h
  go_enter Tryd.func25, Tryd.ntmps25
  go_wp2_with (go_at_call 62; refine hc.mono ?_; rintro e w2 ⟨u, rfl, ho, ⟨a2, cap2, rfl⟩, e2⟩)
  go_ret
  exact Ret.mk ⟨ho, ⟨_, _, rfl⟩, e2⟩
end Go.Proofs.YtmdepmohfnficaaDoor
