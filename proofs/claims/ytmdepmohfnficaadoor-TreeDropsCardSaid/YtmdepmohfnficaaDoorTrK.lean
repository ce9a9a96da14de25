/- Package tree: Drop, New, Add, Put, Copy. -/
import Derived.Test.YtmdepmohfnficaaDoorTrJ
namespace Go.Proofs.YtmdepmohfnficaaDoor
open Go.RowKit Rk Tr

theorem OwnO.chgB {α : Type} {enc : α → Value} {E : TypeId} {w w' : World} {F G : Nat → Prop} {v : Value} {l : List α} (h : OwnO enc E w F v l) (c : Chg G w w') (hG : ∀ k, F k → k < w.heap.size → ¬ G k) : OwnO enc E w' F v l := by
  rcases h with h | ⟨g, o, cap, cur, h1, h2, hh, r⟩
  · exact .inl h
  · have hg := (Array.getElem?_eq_some_iff.1 hh).1
    exact .inr ⟨g, o, cap, cur, h1, h2, by rw [c.block g hg (hG g h2 hg)]; exact hh, r⟩
attribute [local irreducible] rcells
set_option maxRecDepth 20000 in
set_option maxHeartbeats 2000000 in
theorem drop_any {F : Nat → Prop} {p room : Nat} {l : List Rec} (n : List UInt8) {w : World} (h : TrM 96 w F p room l) (hok : Ok l) (hl : l.length ≤ 1000) (hbl : (below l n).length ≤ 1000) :
    Calls Tryd.prog 32 #[.pointer (some ⟨p, 0, none⟩), .string (str n)] w (Ret fun u w' => OwnO sv 9 w' (fun k => w.heap.size ≤ k) u (below l n) ∧ (∃ a c, u = .slice a (below l n).length c) ∧ TrM 96 w' (fun k => F k ∨ w.heap.size ≤ k) p room (Tr.drop l n) ∧ Chg F w w') := by
  have hB := below_any n h hok hl hbl
  have hth := Lib.hid h.lt
  have hd : RowKit.Hid (Tr.drop l n = l.filter fun r => !inL (below l n) r.name) := Lib.hid (by unfold Tr.drop; congr 1; funext r; rw [inL_contains])
  obtain ⟨L, hL⟩ : ∃ L, L = below l n := ⟨_, rfl⟩
  rw [← hL] at hB hd hbl ⊢
  clear h hL
  go_enter Tryd.func32, Tryd.ntmps32
  go_upto_region 2 with (go_at_call 19; refine hB.mono ?_; rintro e w1 ⟨u, rfl, hu, e1⟩; obtain ⟨a1, c1, rfl⟩ := hu.shape)
  have e2 : Ext w (w1.alloc (.cells #[.slice a1 L.length c1] 39)) := e1.alloc _
  have hB2 := heap_alloc_new w1 (.cells #[.slice a1 L.length c1] 39)
  have hs2 := alloc_size w1 (.cells #[.slice a1 L.length c1] 39)
  have hu2 := hu.lt.ext ((Ext.refl w1).alloc (.cells #[.slice a1 L.length c1] 39))
  obtain ⟨B, hBe⟩ : ∃ B, B = w1.heap.size := ⟨_, rfl⟩
  rw [← hBe] at hB2 hs2 hu2 ⊢
  have hBw : w.heap.size ≤ B := by rw [hBe]; exact e1.size
  generalize w1.alloc (.cells #[.slice a1 L.length c1] 39) = W2 at *
  clear hu e1 hBe
  obtain ⟨v, hv, hFp, hov⟩ := hth.out.ext e2
  obtain ⟨a, cap, rfl⟩ := hov.shape
  have hcl := clone_any _ l W2 hov.recs hl
  have cp := cell_at hv 1 rfl
  have hpw : p < w.heap.size := hFp.2
  have hvh := Lib.hid hv
  have huh := Lib.hid hu2
  have hBh := Lib.hid hB2
  have hs2h := Lib.hid hs2
  have e2h := Lib.hid e2
  clear hv hu2 hB2 hs2 e2 hov
  go_upto_region 3 with (first
    | (go_at_call 62; refine hcl.mono ?_; rintro e w3 ⟨v3, rfl, ho3, ⟨a3, c3, rfl⟩, e3⟩)
    | (go_at_call 69; refine (deleteFunc_all (F := fun k => W2.heap.size ≤ k) (B := B) (p := fun r => inL L r.name) ho3 hl (fun W r c => drop1_any r _ L B W (cell_at ((c.block B (by have := e3.size; have := hs2h.out; omega) (by have := hs2h.out; omega)).trans (e3.heap hBh.out)) 0 rfl) ((huh.out.ext e3).chgB c (fun k hk _ h => by have := hk.2; have := hs2h.out; omega)).sl)).mono ?_; rintro e w4 ⟨v4, rfl, ho4, ⟨a4, c4, rfl⟩, g4⟩; have hp4 := (g4.block p (by have := e3.size; have := hs2h.out; omega) (by have := hs2h.out; omega)).trans (e3.heap hvh.out); have cp4 := cell_at hp4 1 rfl; have fp4 := frozen_of_row w4 p 1 _ _ hp4))
  have hp5 := heap_setCell_same w4 p 1 _ _ (.slice a4 (l.filter fun r => !inL L r.name).length c4) hp4
  have c45 : Chg (fun k => k = p) w4 (w4.setCell ⟨p, 1, none⟩ (.slice a4 (l.filter fun r => !inL L r.name).length c4)) := (Chg.refl (fun k => k = p) w4).setCell (x := ⟨p, 1, none⟩) (fun _ => rfl) _
  generalize w4.setCell ⟨p, 1, none⟩ (.slice a4 (l.filter fun r => !inL L r.name).length c4) = W5 at *
  have hsB := hs2h.out
  have hs3 := e3.size
  have hs4 := g4.size
  have hs0 := e2h.out.size
  have cB5 := cell_at ((c45.block B (by omega) (by omega)).trans ((g4.block B (by omega) (by omega)).trans (e3.heap hBh.out))) 0 rfl
  have ho5 := Lib.hid (ho4.chg c45 fun g cur hg hF e => by omega)
  have hg5 := Lib.hid (((huh.out.ext e3).chgB g4 (fun k hk _ h => by have := hk.2; omega)).chgB c45 (fun k hk _ h => by have := hk.1; omega))
  have hch := Lib.hid ((((Chg.of_ext (e2h.out.trans e3) : Chg F w w3)).then g4 (fun i hi h => by omega)).then c45 (fun i hi h => by rw [h]; exact hFp.1))
  have hp5h := Lib.hid hp5
  clear hp5 c45 hsB hs3 hs4 hp4 cp4 fp4 ho4 g4 ho3 e3
  go_wp2
  go_ret
  refine Ret.mk ⟨hg5.out.mono fun k hk => hk.1, ⟨_, _, rfl⟩, ⟨_, hp5h.out, .inl hFp.1, ?_⟩, hch.out⟩
  rw [hd.out]
  exact ho5.out.mono fun k hk => .inr (Nat.le_trans hs0 hk)
end Go.Proofs.YtmdepmohfnficaaDoor
