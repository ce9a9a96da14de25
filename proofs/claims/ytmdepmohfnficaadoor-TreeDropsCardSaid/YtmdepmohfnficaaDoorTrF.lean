/- Package tree: Below. -/
import Derived.Test.YtmdepmohfnficaaDoorTrE
import Derived.Laws.EntriesVeiled
namespace Go.Proofs.YtmdepmohfnficaaDoor
open Go.RowKit Rk Tr

theorem alloc_size (w : World) (o : Obj) : (w.alloc o).heap.size = w.heap.size + 1 := by show (w.heap.push o).size = _; rw [Array.size_push]
theorem alloc_old (w : World) (o : Obj) {k : Nat} (h : k < w.heap.size) : (w.alloc o).heap[k]? = w.heap[k]? := ((Ext.refl w).alloc o).block k h
attribute [local irreducible] rcells
set_option maxRecDepth 20000 in
set_option maxHeartbeats 2000000 in
theorem below_any {F : Nat → Prop} {p room : Nat} {l : List Rec} (n : List UInt8) {w : World} (h : TrM 96 w F p room l) (hok : Ok l) (hl : l.length ≤ 1000) (hbl : (below l n).length ≤ 1000) :
    Calls Tryd.prog 19 #[.pointer (some ⟨p, 0, none⟩), .string (str n)] w (Ret fun u w' => OwnO sv 9 w' (fun k => w.heap.size ≤ k) u (below l n) ∧ Ext w w') := by
  have hat := Lib.hid (fun W (e : Ext w W) => at_any n (h.ext e))
  have hth := Lib.hid h.lt
  have e0 := Ext.refl w
  obtain ⟨W3, hW3⟩ : ∃ W3, W3 = ((w.alloc (.cells #[.pointer (some ⟨p, 0, none⟩)] 28)).alloc (.cells #[.slice none 0 0] 39)).alloc (.cells #[.nilFunc] 93) := ⟨_, rfl⟩
  have hs1 : (w.alloc (.cells #[.pointer (some ⟨p, 0, none⟩)] 28)).heap.size = w.heap.size + 1 := alloc_size _ _
  have hs2 : ((w.alloc (.cells #[.pointer (some ⟨p, 0, none⟩)] 28)).alloc (.cells #[.slice none 0 0] 39)).heap.size = w.heap.size + 1 + 1 := by rw [alloc_size, alloc_size]
  have h3 : W3.heap[w.heap.size + 1 + 1]? = some (.cells #[.nilFunc] 93 (0, 0)) := by
    have := heap_alloc_new ((w.alloc (.cells #[.pointer (some ⟨p, 0, none⟩)] 28)).alloc (.cells #[.slice none 0 0] 39)) (.cells #[.nilFunc] 93)
    rw [hs2] at this; rw [hW3]; exact this
  have h2 : W3.heap[w.heap.size + 1]? = some (.cells #[.slice none 0 0] 39 (0, 0)) := by
    have := heap_alloc_new (w.alloc (.cells #[.pointer (some ⟨p, 0, none⟩)] 28)) (.cells #[.slice none 0 0] 39)
    rw [hs1] at this; rw [hW3, alloc_old _ _ (by rw [hs2]; omega)]; exact this
  have h1 : W3.heap[w.heap.size]? = some (.cells #[.pointer (some ⟨p, 0, none⟩)] 28 (0, 0)) := by
    have := heap_alloc_new w (.cells #[.pointer (some ⟨p, 0, none⟩)] 28)
    rw [hW3, alloc_old _ _ (by rw [hs2]; omega), alloc_old _ _ (by rw [hs1]; omega)]; exact this
  have e3 : Ext w W3 := by rw [hW3]; exact ((e0.alloc _).alloc _).alloc _
  have hz3 : W3.heap.size = w.heap.size + 3 := by rw [hW3, alloc_size, alloc_size, alloc_size]
  have c3 := cell_at h3 0 rfl
  have f3 := frozen_of_row W3 (w.heap.size + 1 + 1) 0 _ _ h3
  obtain ⟨b, hb⟩ : ∃ b, b = w.heap.size := ⟨_, rfl⟩
  have h1h := Lib.hid h1
  have h2h := Lib.hid h2
  have h3h := Lib.hid h3
  have e3h := Lib.hid e3
  have hz3h := Lib.hid hz3
  have hbh := Lib.hid hb
  clear h hs1 hs2 h1 h2 h3 hz3 e3 e0 hb
  go_enter Tryd.func19, Tryd.ntmps19
  go_upto_region 3 with fail
  rw [← hW3]
  clear hW3
  go_upto_region 4 with fail
  have hW4 := heap_setCell_same W3 (w.heap.size + 1 + 1) 0 _ _ (.func (.func 60) #[] #[.pointer (some ⟨w.heap.size + 1, 0, none⟩), .pointer (some ⟨w.heap.size, 0, none⟩), .pointer (some ⟨w.heap.size + 1 + 1, 0, none⟩)]) h3h.out
  have c34 : Chg (fun k => k = w.heap.size + 1 + 1) W3 (W3.setCell ⟨w.heap.size + 1 + 1, 0, none⟩ (.func (.func 60) #[] #[.pointer (some ⟨w.heap.size + 1, 0, none⟩), .pointer (some ⟨w.heap.size, 0, none⟩), .pointer (some ⟨w.heap.size + 1 + 1, 0, none⟩)])) := (Chg.refl (fun k => k = w.heap.size + 1 + 1) W3).setCell (x := ⟨w.heap.size + 1 + 1, 0, none⟩) (fun _ => rfl) _
  generalize W3.setCell ⟨w.heap.size + 1 + 1, 0, none⟩ (.func (.func 60) #[] #[.pointer (some ⟨w.heap.size + 1, 0, none⟩), .pointer (some ⟨w.heap.size, 0, none⟩), .pointer (some ⟨w.heap.size + 1 + 1, 0, none⟩)]) = W4 at *
  have hz3 := hz3h.out
  have e4 : Ext w W4 := e3h.out.chg c34 fun i hi => by omega
  have hB4 : BelW W4 w.heap.size p := ⟨by rw [c34.block _ (by omega) (by omega)]; exact h1h.out, hW4⟩
  have hC4 : Coll W4 w.heap.size (fun k => False ∧ w.heap.size + 3 ≤ k) [] := ⟨.slice none 0 0, by rw [c34.block _ (by omega) (by omega)]; exact h2h.out, .inl ⟨rfl, rfl⟩⟩
  have hT4 : TrM 96 W4 (fun k => F k ∧ k < w.heap.size) p room l := hth.out.ext e4
  have cT := cell_at hB4.tree 0 rfl
  have hs4 := Lib.hid e4.size
  have hz4 := Lib.hid (show w.heap.size + 3 ≤ W4.heap.size from by have := c34.size; omega)
  have e4h := Lib.hid e4
  clear c34 hW4 hz3 c3 f3 e4
  rcases atI_cases l n with ⟨h1, h2⟩ | ⟨i, r, h1, h2, h3, -⟩
  · have hbn := Lib.hid (below_none h1)
    rw [h2] at hat
    obtain ⟨v, hv, ho⟩ := hC4
    obtain rfl : v = .slice none 0 0 := by
      rcases ho with ⟨rfl, -⟩ | ⟨_, _, _, _, -, hf, -⟩
      · rfl
      · exact absurd hf.1 id
    have cv := cell_at hv 0 rfl
    have cvh := Lib.hid cv
    clear ho hv h1 h2 cv hB4 hT4
    go_upto_region 6 with (go_at_call 61; refine (hat.out _ e4h.out).mono ?_; rintro e w5 ⟨rfl, e5⟩)
    have cv5 := e5.cell cvh.out
    go_wp2
    go_ret
    exact Ret.mk ⟨.inl ⟨rfl, hbn.out⟩, e4h.out.trans e5⟩
  · rw [h2] at hat
    have hil : (0 : Int) ≤ (i : Int) := by omega
    have hbF := Lib.hid (below_F hok h1 (d := l.length) (by omega))
    have hwk := Lib.hid (fun W (e : Ext W4 W) => walk_any (F := F) (p := p) (room := room) hok hl l.length i n h1 (by omega) W w.heap.size (fun _ => False) [] (hT4.ext e) (hB4.chg (P := fun _ => False) (Chg.of_ext e) id id) (hC4.ext e) (by rw [← hbF.out]; simp; omega))
    have cWk := Lib.hid (fun W (e : Ext W4 W) => (cell_at (hB4.chg (P := fun _ => False) (Chg.of_ext e) id id : BelW W w.heap.size p).walk 0 rfl))
    clear h1 h2 h3 hB4 hC4 hT4
    go_upto_region 5 with (go_at_call 61; refine (hat.out _ e4h.out).mono ?_; rintro e w5 ⟨rfl, e5⟩)
    have cw5 := cWk.out _ e5
    go_upto_region 6 with (go_at_call 60; refine (hwk.out _ e5).mono ?_; rintro e w6 ⟨rfl, ⟨v6, hv6, ho6⟩, c6⟩)
    obtain ⟨a6, cap6, rfl⟩ := ho6.shape
    have cv6 := cell_at hv6 0 rfl
    have hoh := Lib.hid ho6
    have c6h := Lib.hid c6
    have e5h := Lib.hid e5
    clear hv6 ho6 c6 e5 cw5
    go_wp2
    go_ret
    refine Ret.mk ⟨?_, (e4h.out.trans e5h.out).chg c6h.out fun k hk => hk.elim (fun h => by omega) fun h => absurd h.1 id⟩
    have := hoh.out
    rw [List.nil_append, ← hbF.out] at this
    rw [hbF.out] at this ⊢
    exact this.mono fun k hk => by
      have := hk.2
      omega
end Go.Proofs.YtmdepmohfnficaaDoor
