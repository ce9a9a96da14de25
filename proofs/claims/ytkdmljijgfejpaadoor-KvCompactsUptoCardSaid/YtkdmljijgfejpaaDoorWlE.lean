/- The log: what it tells; a copy of bytes. -/
import Derived.Test.YtkdmljijgfejpaaDoorWlC
namespace Go.Proofs.YtkdmljijgfejpaaDoor
set_option linter.unusedVariables false
set_option linter.unusedSimpArgs false
open Go.RowKit Dk Wl Fr

theorem lrecords_any {w : World} {q p : Nat} {h : H} {vu : Value} {u : List UInt8} (l : LogAt w q p h vu) (hu : Bytes w vu u) (hul : u.length ≤ 1000000) (hw : Halves w) :
    Calls Tryd.prog 38 #[.pointer (some ⟨q, 0, none⟩)] w (Ret fun v w' => OwnLL w' w.heap.size (fun k => w.heap.size ≤ k) v (scan u) ∧ Ext w w') := by
  obtain ⟨-, -, -, -, c4⟩ := l.cells
  have hsc := scan_any vu u w hw hu hul
  obtain ⟨a, c, rfl, -⟩ := hu
  clear l hw
  go_enter Tryd.func38, Tryd.ntmps38
  go_wp2_with (go_at_call 54; refine hsc.mono ?_; rintro e w2 ⟨r, rfl, x, rfl, o2, e2⟩)
  go_ret
  exact Ret.mk ⟨o2, e2⟩
set_option maxHeartbeats 1000000 in
theorem lRoom_any {w : World} {F : Nat → Prop} {q p : Nat} {h : H} {vu : Value} {d : D} (l : LogAt w q p h vu) (hD : Disk w F p d) (h4 : 4 ≤ d.n) (h512 : d.n ≤ 512) (hu : h.used ≤ 32 * areaN d.n) :
    Calls Tryd.prog 47 #[.pointer (some ⟨q, 0, none⟩)] w fun e w' => e = .returned (.int .i64 ((32 * areaN d.n - h.used : Nat) : Int)) ∧ Ext w w' := by
  obtain ⟨-, -, -, c3, -⟩ := l.cells
  have hrm := Lib.hid (lroom_any (l.ext (Ext.refl w).drew) (hD.ext (Ext.refl w).drew) h4 h512)
  have hm : areaN d.n ≤ 256 := by unfold areaN; omega
  obtain ⟨M, hM⟩ : ∃ M, M = 32 * areaN d.n := ⟨_, rfl⟩
  rw [← hM] at hrm hu ⊢
  obtain ⟨Z, hZ⟩ : ∃ Z, Z = M - h.used := ⟨_, rfl⟩
  rw [← hZ]
  have g1 : (M : Int) - (h.used : Int) = (Z : Int) := by omega
  have g2 : IntKind.i64.wrap (Z : Int) = (Z : Int) := wrap_sm (by omega)
  have e0 := Ext.refl w
  clear l hD h4 h512 hu hm hM hZ
  go_enter Tryd.func47, Tryd.ntmps47
  go_wp2
  go_region_with (go_at_call 59; refine hrm.out.mono ?_; rintro e w' ⟨rfl, rfl⟩)
  all_goals go_wp2
  all_goals go_ret
  all_goals exact ⟨rfl, e0.drew⟩
theorem clone8_any (v : Value) (l : List UInt8) (hl : l.length ≤ 1048576) (w : World) (h : Bytes w v l) :
    Calls Tryd.prog 57 #[v] w (Ret fun v' w' => OwnB w' w.heap.size v' l ∧ Ext w w') := by
  have e0 := Ext.refl w
  have q : ∀ (w : World) (a : Option Addr) (n c n' c' : Nat), (binOp .eql 23 (.slice a n c) (.slice none n' c')).run Tryd.prog w = .ok (.bool a.isNone) w := fun w a n c n' c' => Lib.run_eql_slice_nil w _ _ a n c n' c' Tryd.underlying23
  obtain ⟨a, cap, rfl, hs⟩ := h
  cases a with
  | none =>
    have := hs.none rfl
    subst this
    have hle := hs.le
    obtain rfl : l = [] := List.eq_nil_of_length_eq_zero (by omega)
    go_enter Tryd.func57, Tryd.ntmps57
    go_wp2
    go_ret
    exact Ret.mk ⟨World.ownsRow_nil _ _ _ 1, e0⟩
  | some ad =>
    go_enter Tryd.func57, Tryd.ntmps57
    go_wp2_with (at_builtin; refine wpList_appendB rfl (.tmp 5) (.tmp 6) rfl w.heap.size _ [] rfl (OwnB.empty rfl (Nat.le_refl _)) _ l rfl (Bytes.ext ⟨_, _, rfl, hs⟩ (e0.alloc _)) (by simp; omega) ((e0.alloc _).size) ?_; intro v' w' g1 g2)
    go_ret
    exact Ret.mk ⟨g1, (e0.alloc _).grown g2 fun k hk => by cases hk; exact Nat.le_refl _⟩
end Go.Proofs.YtkdmljijgfejpaaDoor
