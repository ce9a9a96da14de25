/- Package tree: Below. -/
import Derived.Test.YtmdepmohfnficaaDoorTrD
namespace Go.Proofs.YtmdepmohfnficaaDoor
open Go.RowKit Rk Tr

theorem Own.chgB {α : Type} {enc : α → Value} {E : TypeId} {w w' : World} {base : Nat} {v : Value} {l : List α} {p : Nat → Prop} (h : Own enc E w base v l) (c : Chg p w w') (hp : ∀ k, v.ownBlock = some k → ¬ p k) : Own enc E w' base v l := by
  obtain ⟨h0, h⟩ := h
  refine ⟨h0, ?_⟩
  rcases h with h | ⟨g, cap, cur, rfl, h1, hh, h2⟩
  · exact .inl h
  · exact .inr ⟨g, cap, cur, rfl, h1, by rw [c.block g (Array.getElem?_eq_some_iff.1 hh).1 (hp g rfl)]; exact hh, h2⟩
theorem Own.ltB {α : Type} {enc : α → Value} {E : TypeId} {w : World} {base : Nat} {v : Value} {l : List α} (h : Own enc E w base v l) : ∀ k, v.ownBlock = some k → k < w.heap.size := fun k hk => (World.ownsRow.lt h k hk).2
/-- the cells that Below lays: the tree's pointer, what is collected, the walk itself -/
structure BelW (w : World) (b p : Nat) : Prop where
  tree : w.heap[b]? = some (.cells #[.pointer (some ⟨p, 0, none⟩)] 28 (0, 0))
  walk : w.heap[b + 2]? = some (.cells #[.func (.func 60) #[] #[.pointer (some ⟨b + 1, 0, none⟩), .pointer (some ⟨b, 0, none⟩), .pointer (some ⟨b + 2, 0, none⟩)]] 93 (0, 0))
/-- what is collected -/
def Coll (w : World) (b : Nat) (F : Nat → Prop) (S : List (List UInt8)) : Prop := ∃ v, w.heap[b + 1]? = some (.cells #[v] 39 (0, 0)) ∧ OwnO sv 9 w F v S
theorem Coll.mono {w : World} {b : Nat} {F G : Nat → Prop} {S : List (List UInt8)} (h : Coll w b F S) (k : ∀ j, F j → G j) : Coll w b G S := let ⟨v, h1, h2⟩ := h; ⟨v, h1, h2.mono k⟩
theorem Coll.ext {w w' : World} {b : Nat} {F : Nat → Prop} {S : List (List UInt8)} (h : Coll w b F S) (e : Ext w w') : Coll w' b F S := let ⟨v, h1, h2⟩ := h; ⟨v, e.heap h1, h2.ext e⟩
theorem Chg.then {p q : Nat → Prop} {a b c : World} (h : Chg p a b) (k : Chg q b c) (hq : ∀ i, i < a.heap.size → q i → p i) : Chg p a c :=
  ⟨k.os.trans h.os, k.tape.trans h.tape, k.output.trans h.output, Nat.le_trans h.size k.size, fun i hi hp => (k.block i (Nat.lt_of_lt_of_le hi h.size) fun e => hp (hq i hi e)).trans (h.block i hi hp)⟩
theorem BelW.chg {w w' : World} {b p : Nat} {P : Nat → Prop} (h : BelW w b p) (c : Chg P w w') (h0 : ¬ P b) (h2 : ¬ P (b + 2)) : BelW w' b p :=
  ⟨by rw [c.block b (Array.getElem?_eq_some_iff.1 h.tree).1 h0]; exact h.tree, by rw [c.block _ (Array.getElem?_eq_some_iff.1 h.walk).1 h2]; exact h.walk⟩
theorem flat_take {α β : Type} {f : α → List β} : ∀ (l : List α) (j : Nat) (x : α), l[j]? = some x → (l.take (j + 1)).flatMap f = (l.take j).flatMap f ++ f x
  | l, j, x, h => by rw [List.take_add_one, h, List.flatMap_append]; simp
theorem flat_take_len {α β : Type} {f : α → List β} (l : List α) (j : Nat) : ((l.take j).flatMap f).length ≤ (l.flatMap f).length := by
  conv => rhs; rw [← List.take_append_drop j l, List.flatMap_append, List.length_append]
  omega
attribute [local irreducible] rcells
set_option maxRecDepth 20000 in
set_option maxHeartbeats 2000000 in
theorem walk_any {F : Nat → Prop} {p room : Nat} {l : List Rec} (hok : Ok l) (hl : l.length ≤ 1000) : ∀ (d i : Nat) (n : List UInt8), ix l n = some i → l.length - i ≤ d → ∀ (w : World) (b : Nat) (G : Nat → Prop) (S : List (List UInt8)),
    TrM 96 w (fun k => F k ∧ k < b) p room l → BelW w b p → Coll w b (fun k => G k ∧ b + 3 ≤ k) S → S.length + (belowF l d n).length ≤ 1000000 →
    Calls Tryd.prog 60 #[.string (str n), .pointer (some ⟨b + 1, 0, none⟩), .pointer (some ⟨b, 0, none⟩), .pointer (some ⟨b + 2, 0, none⟩)] w fun e w' => e = .returned (.tuple #[]) ∧ Coll w' b (fun k => (G k ∨ w.heap.size ≤ k) ∧ b + 3 ≤ k) (S ++ belowF l d n) ∧ Chg (fun k => k = b + 1 ∨ (G k ∧ b + 3 ≤ k)) w w'
  | 0, i, n, hi, hd, _, _, _, _, _, _, _, _ => by have := ix_lt hi; omega
  | d + 1, i, n, hi, hd, w, b, G, S, ht, hb, hc, hlen => by
    have IH := fun m j hm hj W G' S' => walk_any (F := F) (p := p) (room := room) hok hl d j m hm hj W b G' S'
    obtain ⟨v, hv, ho⟩ := hc
    have hb2 : b + 2 < w.heap.size := (Array.getElem?_eq_some_iff.1 hb.walk).1
    have cv := cell_at hv 0 rfl
    have hlen2 := hlen
    rw [belowF, List.length_cons] at hlen2
    obtain ⟨a0, cap0, rfl⟩ := ho.shape
    have hvh := Lib.hid hv
    have hoh := Lib.hid ho
    have hbh := Lib.hid hb
    have hth := Lib.hid ht
    clear hv ho hb ht
    go_enter Tryd.func60, Tryd.ntmps60
    go_upto_region 1 with (refine wpList_appendO (enc := sv) Tryd.underlying39 info_strS rfl (fun _ => rfl) rfl _ _ rfl (fun k => G k ∧ b + 3 ≤ k) _ S rfl (hoh.out.ext ((Ext.refl w).alloc _)) _ [n] rfl (Sl.lit rfl rfl rfl (by decide) (by decide)) (by simp only [List.length_singleton]; omega) (by simp only [List.length_singleton]; omega) ?_; intro v1 w1 o1 c1; obtain ⟨a1, cap1, rfl⟩ := o1.shape; have hv1 := (c1.block (b + 1) (Nat.lt_of_lt_of_le (by omega) ((Ext.refl w).alloc _).size) (fun h => by have := h.2; omega)).trans (((Ext.refl w).alloc _).heap hvh.out); have cv1 := cell_at hv1 0 rfl; have fv1 := frozen_of_row w1 (b + 1) 0 _ _ hv1)
    rw [List.length_append, List.length_singleton] at o1
    have c01 : Chg (fun k => G k ∧ b + 3 ≤ k) w w1 := (Chg.of_ext ((Ext.refl w).alloc _)).trans c1
    have c02 : Chg (fun k => k = b + 1 ∨ (G k ∧ b + 3 ≤ k)) w (w1.setCell ⟨b + 1, 0, none⟩ (.slice a1 (S.length + 1) cap1)) := (c01.mono fun k h => .inr h).setCell (fun _ => .inl rfl) _
    have hv2 : (w1.setCell ⟨b + 1, 0, none⟩ (.slice a1 (S.length + 1) cap1)).heap[b + 1]? = some (.cells #[.slice a1 (S.length + 1) cap1] 39 (0, 0)) := heap_setCell_same w1 (b + 1) 0 _ _ _ hv1
    have o2 := o1.chg (G := fun k => k = b + 1) ((Chg.refl (fun k => k = b + 1) w1).setCell (x := ⟨b + 1, 0, none⟩) (fun _ => rfl) (.slice a1 (S.length + 1) cap1)) (fun k hk e => by
      subst e
      rcases hk with h | h
      · have := h.2; omega
      · have := ((Ext.refl w).alloc (.cells #[.string (str n)] 9)).size; omega)
    have o2 := (o2.mono (G := fun k => (G k ∨ w.heap.size ≤ k) ∧ b + 3 ≤ k) fun k hk => by
      rcases hk with h | h
      · exact ⟨.inl h.1, h.2⟩
      · have := ((Ext.refl w).alloc (.cells #[.string (str n)] 9)).size
        exact ⟨.inr (by omega), by omega⟩).lt
    generalize w1.setCell ⟨b + 1, 0, none⟩ (.slice a1 (S.length + 1) cap1) = w2 at *
    have hbw2 := hbh.out.chg c02 (by omega) (by omega)
    have ht2 := hth.out.chg c02 (fun k hk _ h => by have := hk.2; omega)
    have hkd := kids_any n ht2 hl
    have cT := cell_at hbw2.tree 0 rfl
    have c02h := Lib.hid c02
    have hv2h := Lib.hid hv2
    have o2h := Lib.hid o2
    have ht2h := Lib.hid ht2
    have hb2h := Lib.hid hbw2
    clear c02 hv2 o2 ht2 hbw2 o1 c1 c01 hv1 cv1 fv1 cv
    obtain ⟨K, hK⟩ : ∃ K, K = kids l n := ⟨_, rfl⟩
    have hKid := Lib.hid (fun c (hc : c ∈ K) => kid_at hok hi (by rw [← hK]; exact hc))
    have hKl := Lib.hid (kids_len l n l.length)
    rw [← hK] at hkd hlen2
    have hKe := Lib.hid (show belowF l (d + 1) n = n :: K.flatMap (belowF l d) from by rw [belowF, hK])
    rw [List.take_length, ← hK] at hKl
    clear hK
    go_wp2_with (go_at_call 42; refine hkd.mono ?_; rintro e w3 ⟨kv, rfl, hkv, e3⟩; obtain ⟨ak, ck, rfl⟩ := hkv.shapeN)
    have hw23 := Lib.hid e3.size
    have hw02 := Lib.hid c02h.out.size
    have hkvh := Lib.hid hkv
    have hkb := Lib.hid hkv.ltB
    have e3h := Lib.hid e3
    have hKn : (K.length : Int) ≤ 1000 := by have := hKl.out; omega
    obtain ⟨G3, hG3⟩ : ∃ G3 : Nat → Prop, G3 = fun k => ((G k ∨ w.heap.size ≤ k) ∧ k < w2.heap.size) ∨ w3.heap.size ≤ k := ⟨_, rfl⟩
    have hGk : RowKit.Hid (∀ k, G3 k ↔ ((G k ∨ w.heap.size ≤ k) ∧ k < w2.heap.size) ∨ w3.heap.size ≤ k) := Lib.hid fun k => by rw [hG3]
    have hst0 : RowKit.Hid (Coll w3 b (fun k => G3 k ∧ b + 3 ≤ k) (S ++ [n])) := Lib.hid ⟨_, e3.heap hv2h.out, (o2h.out.ext e3).mono fun k hk => ⟨(hGk.out k).2 (.inl ⟨hk.1.1, hk.2⟩), hk.1.2⟩⟩
    have hc03 : RowKit.Hid (Chg (fun k => k = b + 1 ∨ (G k ∧ b + 3 ≤ k)) w w3) := Lib.hid (c02h.out.ext e3)
    have ht3 : RowKit.Hid (TrM 96 w3 (fun k => F k ∧ k < b) p room l) := Lib.hid (ht2h.out.ext e3)
    have hb3 : RowKit.Hid (BelW w3 b p) := Lib.hid (hb2h.out.chg (P := fun _ => False) (Chg.of_ext e3) id id)
    clear hkv e3 hv2h o2h c02h ht2h hb2h hG3 hth hbh hoh hvh cT
    go_loopw [15] (fun i wr => ∃ j : Nat, j ≤ K.length ∧ i = .int .i64 (j : Int) ∧ RowKit.Hid (Coll wr b (fun k => G3 k ∧ b + 3 ≤ k) (S ++ [n] ++ (K.take j).flatMap (belowF l d))) ∧ RowKit.Hid (Own sv 9 wr w2.heap.size (.slice ak K.length ck) K) ∧ RowKit.Hid (TrM 96 wr (fun k => F k ∧ k < b) p room l) ∧ RowKit.Hid (BelW wr b p) ∧ RowKit.Hid (Chg (fun k => k = b + 1 ∨ (G k ∧ b + 3 ≤ k)) w wr) ∧ RowKit.Hid (w3.heap.size ≤ wr.heap.size)) (fun i _ => K.length - (intOf i).toNat)
    case atStart => exact ⟨0, Nat.zero_le _, rfl, Lib.hid (by simpa using hst0.out), hkvh, ht3, hb3, hc03, Lib.hid (Nat.le_refl _)⟩
    case round =>
      obtain ⟨j, hj, rfl, hcr, hkr, htr, hbr, hcg, hsz⟩ := hrel
      clear hst0 hkvh ht3 hb3 hc03
      by_cases hlt : j < K.length
      · obtain ⟨c, hcj⟩ := some_at hlt
        obtain ⟨q, rq, hq1, hq2, hq3, hq4, hq5⟩ := hKid.out c (List.mem_of_getElem? hcj)
        have hji : (j : Int) < (K.length : Int) := by omega
        have hwj : IntKind.i64.wrap ((j : Int) + 1) = (j : Int) + 1 := by rw [IntKind.wrap_i64]; omega
        obtain ⟨_, _, hsq, hsl⟩ := hkr.out.sl
        simp only [Value.slice.injEq] at hsq
        obtain ⟨rfl, -, rfl⟩ := hsq
        obtain ⟨gk, ok, rfl, hck⟩ := hsl.cells j c hcj
        unfold sv at hck
        have cW := cell_at hbr.out.walk 0 rfl
        have hft := Lib.hid (flat_take (f := belowF l d) K j c hcj)
        have hfl := Lib.hid (flat_take_len (f := belowF l d) K (j + 1))
        have hIH := IH c q hq5 (by omega) wr G3 _ htr.out hbr.out hcr.out (by
          have h1 := congrArg List.length hft.out
          have h2 := hfl.out
          simp only [List.length_append, List.length_singleton] at *
          omega)
        clear hsl hcj hq1 hq2 hq3 hq4 hq5 hcr
        go_wp2_with (go_at_call 60; refine hIH.mono ?_; rintro e w5 ⟨rfl, hc5, g5⟩)
        have hle := g5.size
        have h3r := hsz.out
        have h23 := hw23.out
        have h02 := hw02.out
        go_roundw
        case rel =>
          refine ⟨j + 1, by omega, by go_num, Lib.hid ?_, Lib.hid ?_, Lib.hid ?_, Lib.hid ?_, Lib.hid ?_, Lib.hid (Nat.le_trans h3r hle)⟩
          · rw [hft.out, ← List.append_assoc]
            exact hc5.mono fun k hk => ⟨hk.1.elim id fun h => (hGk.out k).2 (.inr (Nat.le_trans h3r h)), hk.2⟩
          · refine hkr.out.chgB g5 fun k hk h => ?_
            have h1 := hkr.out.lt k hk
            rcases h with h | ⟨h, -⟩
            · omega
            · rcases (hGk.out k).1 h with h | h
              · omega
              · have := hkb.out k hk; omega
          · exact htr.out.chg g5 fun k hk _ h => by have := hk.2; omega
          · exact hbr.out.chg g5 (by omega) (by omega)
          · refine hcg.out.then g5 fun k hk h => ?_
            rcases h with h | ⟨h, h'⟩
            · exact .inl h
            · rcases (hGk.out k).1 h with h | h
              · rcases h.1 with h | h
                · exact .inr ⟨h, h'⟩
                · omega
              · omega
        case measure => simp [intOf]; omega
      · obtain rfl : j = K.length := by omega
        have hc5 := hcr.out
        rw [List.take_length] at hc5
        have hc5h := Lib.hid hc5
        clear hc5 hcr
        go_wp2
        go_end0
        refine ⟨rfl, ?_, hcg.out⟩
        rw [hKe.out, show S ++ n :: K.flatMap (belowF l d) = S ++ [n] ++ K.flatMap (belowF l d) by simp]
        refine hc5h.out.mono fun k hk => ⟨?_, hk.2⟩
        rcases (hGk.out k).1 hk.1 with h | h
        · exact h.1
        · have := hw23.out
          have := hw02.out
          exact .inr (by omega)
end Go.Proofs.YtmdepmohfnficaaDoor
