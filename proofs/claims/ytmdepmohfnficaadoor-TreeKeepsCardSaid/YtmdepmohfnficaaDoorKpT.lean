/- The sort of changes, walked. (turned from XKvT) -/
import Derived.Test.YtmdepmohfnficaaDoorKpS
namespace Go.Proofs.YtmdepmohfnficaaDoor
set_option linter.unusedVariables false
set_option linter.unusedSimpArgs false
open Go.RowKit Kv

set_option maxHeartbeats 1000000 in
theorem closure_any (x y : Kv.Ch) (W : World) : Calls Tryd.prog 77 #[.agg #[.string (str x.k), .string (str x.v), .bool x.g], .agg #[.string (str y.k), .string (str y.v), .bool y.g]] W fun e w' => e = .returned (.int .i64 (cfP x y)) ∧ ∃ q os', w' = Sort.grow (W.drewN q) os' := by
  have hcon := fun W' => strings_Compare (str x.k) (str y.k) W'
  have hxy := Lib.hid (show cfP x y = Lib.compareBytes x.k y.k from rfl)
  simp only [show (str x.k).data.toList = x.k from rfl, show (str y.k).data.toList = y.k from rfl] at hcon
  generalize Lib.compareBytes x.k y.k = r at hcon hxy
  go_enter Tryd.func77, Tryd.ntmps77
  go_wp2_with (go_at_call 78; refine (hcon _).mono ?_; rintro e w' ⟨rfl, rfl⟩)
  go_ret
  exact ⟨by rw [hxy.out]; rfl, 0, _, by rw [Sort.alloc_eq_grow, Sort.alloc_eq_grow, Sort.grow_grow]; rfl⟩
theorem cmpLays_any (blk off size : Nat) (w : World) : CmpLays Tryd.prog 77 #[] chc 3 cfP blk off size w :=
  fun _ _ _ _ x y => closure_any x y _
theorem sort_any {w : World} {F : Nat → Prop} {g cap : Nat} {l L : List Kv.Ch} (h : OwnC w F (.slice (some ⟨g, 0, none⟩) l.length cap) l) (hL : Kp.SrtC L) (hm : ∀ p, p ∈ l ↔ p ∈ L) (hn : l.Nodup) (hl : l.length ≤ 1000000) :
    Calls Tryd.prog 76 #[.slice (some ⟨g, 0, none⟩) l.length cap, .func (.func 77) #[] #[]] w fun e w' => e = .returned (.tuple #[]) ∧ Chg (fun k => k = g) w w' ∧ OwnC w' F (.slice (some ⟨g, 0, none⟩) l.length cap) L := by
  have eg : ∀ args w, (callFunc 77 args).run Tryd.prog w = .ok (.enter 77 args) w := enters_of Tryd.func77 (by kernel_rfl) rfl
  obtain ⟨h1, h2, h3⟩ := holds_ownP h
  have hcon := AnyQ.slices_SortFunc sortCh 3 Tryd.isAgg104 Tryd.sizeOf104 chc chc_len chc_one cfP swoP 77 #[] g 0 cap l.toArray w eg (cmpLays_any g 0 l.toArray.size w) h1 h2 (by rw [List.size_toArray]; omega)
  change Calls Tryd.prog 76 #[.slice (some ⟨g, 0, none⟩) l.length cap, .func (.func 77) #[] #[]] _ _ at hcon
  refine hcon.mono fun e w' ⟨he, d', n, os, hp, hs, hw⟩ => ?_
  obtain rfl := sorted_eq hL hm hn hp hs
  have hlen : L.length = l.length := ((List.perm_ext_iff_of_nodup (hL.imp fun h e => lt_ne h (congrArg Ch.k e)) hn).2 fun p => (hm p).symm).length_eq
  subst hw
  refine ⟨he, chg_sortedP _, ?_⟩
  have := own_sortedP (n := n) (os := os) h hlen fun x hx => h.2 x ((hm x).2 hx)
  rw [hlen] at this
  exact this
end Go.Proofs.YtmdepmohfnficaaDoor
