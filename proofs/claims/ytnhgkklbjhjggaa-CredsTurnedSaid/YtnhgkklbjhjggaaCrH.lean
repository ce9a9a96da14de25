/- Package creds: New. -/
import Derived.Test.YtnhgkklbjhjggaaCrG
import Derived.Deep.RegionHeld3
import Derived.Deep.RegionWith
namespace Go.Proofs.Ytnhgkklbjhjggaa
open Go.RowKit Cr

/-- a user as the map's value -/
def UV (w : World) (x : Us) (u : Value) : Prop := ∃ a cap, u = .agg #[.string (str x.n), .string (str x.p), .slice a x.a.length cap] ∧ Prs w (.slice a x.a.length cap) x.a
theorem UV.ext {w w' : World} {x : Us} {u : Value} (h : UV w x u) (e : Ext w w') : UV w' x u := let ⟨a, c, h1, h2⟩ := h; ⟨a, c, h1, h2.ext e⟩
/-- the map's pairs are these users -/
def TabL (w : World) (l : List Us) (ps : List (List UInt8 × Value)) : Prop := ps.map (·.1) = names l ∧ ∀ (j : Nat) (x : Us), l[j]? = some x → ∃ u, ps[j]? = some (x.n, u) ∧ UV w x u
theorem TabL.ext {w w' : World} {l : List Us} {ps : List (List UInt8 × Value)} (h : TabL w l ps) (e : Ext w w') : TabL w' l ps :=
  ⟨h.1, fun j x hj => let ⟨u, h1, h2⟩ := h.2 j x hj; ⟨u, h1, h2.ext e⟩⟩
/-- t is the table of these users -/
def Tb (w : World) (t : Value) (l : List Us) : Prop := ∃ g b ps, t = .pointer (some ⟨g, 0, none⟩) ∧ w.cell? ⟨g, 0, none⟩ = some (.map (some b)) ∧ MapS w b ps ∧ TabL w l ps ∧ (names l).Nodup
theorem Tb.ext {w w' : World} {t : Value} {l : List Us} (h : Tb w t l) (e : Ext w w') : Tb w' t l :=
  let ⟨g, b, ps, h1, h2, h3, h4, h5⟩ := h; ⟨g, b, ps, h1, e.cell h2, h3.ext e, h4.ext e, h5⟩
theorem look_of_mem {ps : List (List UInt8 × Value)} {q : List UInt8 × Value} (h : q ∈ ps) : ¬ look ps q.1 = none := by
  unfold look
  intro e
  rw [Option.map_eq_none_iff, List.find?_eq_none] at e
  exact e q h (seq_self _)
def uz : Value := .agg #[.string (str []), .string (str []), .slice none 0 0]
theorem zero_user (W : World) : (zeroValue 40).run Try.prog W = .ok uz W := by
  have h : (Try.prog.info? 40).map (·.zero) = some (some uz) := by kernel_rfl
  unfold zeroValue typeInfo
  cases hi : Try.prog.info? 40 with
  | none => rw [hi] at h; cases h
  | some i =>
    rw [hi] at h
    simp only [Option.map_some, Option.some.injEq] at h
    simp [hi, h]
theorem keeps_map {w w' : World} {b : Nat} {l : List (List UInt8 × Value)} (h : MapS w b l) (c : Chg (fun j => j = b) w w') (a : Addr) (u : Value) (hu : w.cell? a = some u) : w'.cell? a = some u := by
  by_cases e : a.block = b
  · unfold World.cell? at hu
    rw [e, show w.heap[b]? = _ from h] at hu
    cases hu
  · exact (World.cell?_of_block (c.block a.block (World.block_lt_of_cell? w a hu) e)).trans hu
/-- the texts that lie there lie there still -/
def Kept (w w' : World) : Prop := ∀ a u, w.cell? a = some (.string u) → w'.cell? a = some (.string u)
theorem Kept.trans {a b c : World} (h : Kept a b) (k : Kept b c) : Kept a c := fun p u hu => k p u (h p u hu)
theorem Kept.map {w w' : World} {b : Nat} {l : List (List UInt8 × Value)} (h : MapS w b l) (c : Chg (fun j => j = b) w w') : Kept w w' := fun a _ hu => keeps_map h c a _ hu
theorem Kept.ext {w w' : World} (e : Ext w w') : Kept w w' := fun _ _ hu => e.cell hu
theorem Kept.third {w w' : World} {g : Nat} {a b : Value} {p q : Option Addr} {n m c d : Nat} {E : TypeId} (h : w.heap[g]? = some (.cells #[a, b, .slice p n c] E (0, 0))) (h' : w'.heap[g]? = some (.cells #[a, b, .slice q m d] E (0, 0)))
    (c : Chg (fun j => j = g) w w') : Kept w w' := fun x u hu => by
  by_cases e : x.block = g
  · obtain ⟨xb, xo, xs⟩ := x
    obtain rfl : xb = g := e
    unfold World.cell? at hu ⊢
    simp only [h, h'] at hu ⊢
    cases xs with
    | some _ => simp at hu
    | none =>
      simp only [Option.isSome_none, Bool.false_eq_true, if_false] at hu ⊢
      match xo, hu with
      | 0, hu => exact hu
      | 1, hu => exact hu
      | 2, hu => simp at hu
      | k + 3, hu => simp at hu
  · exact (World.cell?_of_block (c.block x.block (World.block_lt_of_cell? w x hu) e)).trans hu
theorem Prs.keeps {w w' : World} {v : Value} {l : List Pr} (h : Prs w v l) (e : Kept w w') : Prs w' v l := by
  obtain ⟨a, cap, h1, h2, h3, h4, h5⟩ := h
  refine ⟨a, cap, h1, h2, h3, h4, fun j x hj => ?_⟩
  obtain ⟨g, o, cs, k1, k2, k3, rfl, k4⟩ := h5 j x hj
  refine ⟨g, o, prc x, k1, k2, fun i u hu => ?_, rfl, k4⟩
  have hs : ∃ t, u = .string t := by
    match i, hu with
    | 0, hu => exact ⟨_, (Option.some.inj hu).symm⟩
    | 1, hu => exact ⟨_, (Option.some.inj hu).symm⟩
    | i + 2, hu => simp [prc] at hu
  obtain ⟨t, rfl⟩ := hs
  exact e _ _ (k3 i _ hu)
theorem UV.keeps {w w' : World} {x : Us} {u : Value} (h : UV w x u) (e : Kept w w') : UV w' x u := let ⟨a, c, h1, h2⟩ := h; ⟨a, c, h1, h2.keeps e⟩
theorem TabL.more {w w' : World} {l : List Us} {k : Nat} {ps : List (List UInt8 × Value)} (h : TabL w (l.take k) ps) (e : Kept w w') {x : Us} (hx : l[k]? = some x) {u : Value} (hu : UV w' x u) :
    TabL w' (l.take (k + 1)) (ps ++ [(x.n, u)]) := by
  have hlt := (List.getElem?_eq_some_iff.1 hx).1
  have hpl : ps.length = k := by
    have h2 := congrArg List.length h.1
    unfold names at h2
    rw [List.length_map, List.length_map, List.length_take] at h2
    omega
  refine ⟨by rw [List.map_append, h.1, names_take hx]; rfl, fun j y hj => ?_⟩
  have hjl : j < k + 1 := by
    have := (List.getElem?_eq_some_iff.1 hj).1
    rw [List.length_take] at this; omega
  rw [List.getElem?_take, if_pos hjl] at hj
  by_cases hjk : j < k
  · obtain ⟨u', h1, h2⟩ := h.2 j y (by rw [List.getElem?_take, if_pos hjk]; exact hj)
    exact ⟨u', by rw [List.getElem?_append_left (by omega)]; exact h1, h2.keeps e⟩
  · obtain rfl : j = k := by omega
    rw [hx] at hj
    cases hj
    exact ⟨u, by rw [List.getElem?_append_right (by omega), hpl, Nat.sub_self]; rfl, hu⟩
theorem nodup_more {l : List (List UInt8)} {x : List UInt8} (h : l.Nodup) (hx : x ∉ l) : (l ++ [x]).Nodup := by
  rw [List.nodup_append]
  exact ⟨h, by simp, fun a ha b hb e => hx (by rw [List.mem_singleton] at hb; rw [← hb, ← e]; exact ha)⟩
theorem new_any (v : Value) (l : List Us) (w : World) (h : Uss w v l) (hsm : ∀ x ∈ l, x.a.length ≤ 1000) :
    Calls Try.prog 11 #[v] w (Ret fun r w' => ∃ t, r = .tuple #[t, .int .i64 (wrong l).1, .int .i64 ((wrong l).2 : Int)] ∧ Ext w w' ∧ ((wrong l).1 = 0 → Tb w' t l) ∧ ((wrong l).1 ≠ 0 → t = .pointer none)) := by
  obtain ⟨a, cap, rfl, hlen, hget⟩ := Rw.shape h
  have hgh := Lib.hid hget
  clear hget h
  have e0 := Ext.refl w
  have hmm := @run_makeMap Try.prog
  go_enter Try.func11, Try.ntmps11
  go_upto_region 2 with fail
  have m0 := MapS.made w
  have e1 := ((Ext.refl w).alloc (.map #[] 0)).alloc (.cells #[.map (some w.heap.size)] 50)
  have m1 := m0.ext (((Ext.refl (w.alloc (.map #[] 0))).alloc (.cells #[.map (some w.heap.size)] 50)))
  have t1 := heap_alloc_new (w.alloc (.map #[] 0)) (.cells #[.map (some w.heap.size)] 50)
  have t2 := cell_of_row _ _ 0 _ _ _ t1
  have hsz : (w.alloc (.map #[] 0)).heap.size = w.heap.size + 1 := by simp
  rw [hsz] at t2
  generalize (w.alloc (.map #[] 0)).alloc (.cells #[.map (some w.heap.size)] 50) = W1 at *
  obtain ⟨G, hG⟩ : ∃ G, G = w.heap.size + 1 := ⟨_, rfl⟩
  obtain ⟨B, hB⟩ : ∃ B, B = w.heap.size := ⟨_, rfl⟩
  rw [← hG] at t2 ⊢
  rw [← hB] at t2 m1 ⊢
  have hBw := Lib.hid (show w.heap.size ≤ B ∧ G ≠ B from by omega)
  have t3 : W1.cell? ⟨G, 0, none⟩ = some (.map (some B)) := t2
  clear m0 t1 t2 hsz e0 hG hB
  have hst := Lib.hid (Went.start l)
  go_wp2
  go_loopw [15] (fun i wr => ∃ (k : Nat) (ps : List (List UInt8 × Value)), k ≤ l.length ∧ k ≤ 16 ∧ i = .int .i64 (k : Int) ∧ RowKit.Hid (Went l k) ∧ RowKit.Hid (names (l.take k)).Nodup ∧ MapS wr B ps ∧ TabL wr (l.take k) ps ∧ wr.cell? ⟨G, 0, none⟩ = some (.map (some B)) ∧ Ext w wr) (fun i _ => l.length - (intOf i).toNat)
  case atStart => exact ⟨0, [], Nat.zero_le _, by omega, rfl, hst, Lib.hid (by simp [names]), m1, ⟨by simp [names], fun j x hj => by simp at hj⟩, t3, e1⟩
  case round =>
    obtain ⟨k, ps, hk, hk16, rfl, hd, hnd, hm, htl, hc, ek⟩ := hrel
    clear hst m1 t3 e1
    by_cases hlt : k < l.length
    · obtain ⟨x, hx⟩ := some_at hlt
      obtain ⟨g, o, cs, rfl, hr, sl, rfl, hp, hf⟩ := hgh.out k x hx
      have hki : (k : Int) < (l.length : Int) := by omega
      have hw : IntKind.i64.wrap ((k : Int) + 1) = (k : Int) + 1 := by rw [IntKind.wrap_i64]; omega
      have hxh := Lib.hid hx
      have hxs := Lib.hid (hsm x (List.mem_of_getElem? hx))
      have hr2 : wr.rangeAt g (o + k * 3) [.string (str x.n), .string (str x.p), sl] := fun i u hu => ek.cell (hr i u hu)
      obtain ⟨a2, cap2, rfl, hlen2, -⟩ := Rw.shape hp
      have hph := Lib.hid (hp.ext ek)
      clear hx hp hr
      go_upto_region 5 with (refine wpList_load_mid rfl 40 _ rfl g (o + k * 3) rfl [.string (str x.n), .string (str x.p), .slice a2 x.a.length cap2] _ hr2 Try.underlying40 rfl info_user ?_)
      have x1 := heap_alloc_new wr (.cells #[.string (str x.n), .string (str x.p), .slice a2 x.a.length cap2] 40)
      have e2 := (Ext.refl wr).alloc (.cells #[.string (str x.n), .string (str x.p), .slice a2 x.a.length cap2] 40)
      have x2 := e2.cell hc
      have s2 : wr.heap.size < (wr.alloc (.cells #[.string (str x.n), .string (str x.p), .slice a2 x.a.length cap2] 40)).heap.size := by simp
      have l2 := hm.ext e2
      generalize wr.alloc (.cells #[.string (str x.n), .string (str x.p), .slice a2 x.a.length cap2] 40) = W2 at *
      have ww := Lib.hid ek.size
      generalize hB7 : wr.heap.size = B7 at *
      have c0 := cell_of_row _ B7 0 _ _ _ x1
      have c1 := cell_of_row _ B7 1 _ _ _ x1
      have c2 := cell_of_row _ B7 2 _ _ _ x1
      obtain ⟨p1, p2, q1, q2, q3, bb, hbb, hlk⟩ : ∃ (p1 p2 : List UInt8) (q1 : Option Addr) (q2 q3 : Nat) (bb : Bool), (bb = true ↔ x.n ∈ names (l.take k)) ∧ ∀ W, MapS W B ps →
          (Instr.lookup 48 (.map (some B)) (.string (str x.n)) true).run Try.prog W = .ok (.tuple #[.agg #[.string (str p1), .string (str p2), .slice q1 q2 q3], .bool bb]) W := by
        have hlk : ∀ W, MapS W B ps → (Instr.lookup 48 (.map (some B)) (.string (str x.n)) true).run Try.prog W = .ok (.tuple #[(look ps x.n).getD uz, .bool (look ps x.n).isSome]) W := fun W h => run_lookupS Try.underlying48 Try.underlying9 h x.n uz zero_user true
        cases hlook : look ps x.n with
        | none =>
          rw [hlook] at hlk
          refine ⟨[], [], none, 0, 0, false, ⟨nofun, fun h => ?_⟩, hlk⟩
          rw [← htl.1, List.mem_map] at h
          obtain ⟨q, hq, e⟩ := h
          have hne := look_of_mem hq
          rw [e] at hne
          exact absurd hlook hne
        | some u =>
          rw [hlook] at hlk
          have hmem := look_some hlook
          have hin : x.n ∈ names (l.take k) := by rw [← htl.1, List.mem_map]; exact ⟨_, hmem, rfl⟩
          obtain ⟨j, hj⟩ := List.getElem?_of_mem hmem
          have hjl : j < (l.take k).length := by
            have h1 := (List.getElem?_eq_some_iff.1 hj).1
            have h2 := congrArg List.length htl.1
            unfold names at h2
            rw [List.length_map, List.length_map] at h2
            omega
          obtain ⟨y, hy⟩ := some_at hjl
          obtain ⟨u', hu1, a3, c3, hu2, -⟩ := htl.2 j y hy
          rw [hj] at hu1
          simp only [Option.some.injEq, Prod.mk.injEq] at hu1
          obtain ⟨-, rfl⟩ := hu1
          subst hu2
          exact ⟨y.n, y.p, a3, y.a.length, c3, true, ⟨fun _ => hin, fun _ => rfl⟩, hlk⟩
      have hW2 : RowKit.Hid (Ext wr W2) := Lib.hid e2
      have hmx := Lib.hid hm
      have hbbh := Lib.hid hbb
      clear e2 hm hr2 hbb
      have l2d : MapS W2.drew B ps := l2
      have e3 : Ext W2 (W2.alloc (.cells #[.string (str p1), .string (str p2), .slice q1 q2 q3] 40)).drew := ((Ext.refl W2).alloc _).drew
      have l3 := l2.ext e3
      have x3 := e3.cell x2
      have c3 := e3.cell c0
      have ez : Ext W2 (W2.alloc (.cells #[.string (str []), .string (str []), .slice none 0 0] 40)).drew := ((Ext.refl W2).alloc _).drew
      have xz := ez.cell x2
      have cz := ez.cell c0
      have hl3 := hlk _ l3
      have hl2 := hlk _ l2d
      have hlz := hlk _ (l2.ext ez)
      clear hlk
      go_region
      all_goals
        have y1 := e3.heap x1
        have hc4 := e3.cell x2
        have hm4 := l2.ext e3
        have e4 := hW2.out.trans e3
        generalize (W2.alloc (.cells #[.string (str p1), .string (str p2), .slice q1 q2 q3] 40)).drew = W4 at *
        generalize W2.heap.size = B8 at *
        clear hl2 hl3 hlz ez xz cz l3 x3 c3 e3 l2d c0 c1 c2 hW2 x1 x2 l2 hmm
        have hy1 := Lib.hid y1
        have hm4h := Lib.hid hm4
        have e4h := Lib.hid e4
        clear y1 hm4 e4
        by_cases h16 : 16 ≤ k
        · have d16 : decide ((16 : Int) ≤ (k : Int)) = true := decide_eq_true (by omega)
          have hn := Lib.hid (hd.out.full hxh.out h16)
          go_wp2
          go_ret3
          refine Ret.mk ⟨_, by rw [hn.out]; rfl, ek.trans e4h.out, fun h => ?_, fun _ => rfl⟩
          rw [hn.out] at h; cases h
        have d16 : decide ((16 : Int) ≤ (k : Int)) = false := decide_eq_false (by omega)
        have hk15 := Lib.hid (show k < 16 by omega)
        clear h16
        have hR := right_any x _ W4 (hph.out.ext e4h.out) hf
        cases hv : rightU x
        · rw [hv] at hR
          have hn := Lib.hid (hd.out.bad hxh.out hk15.out hv)
          go_wp2_with (first
            | (refine wpList_load_row rfl 40 _ rfl B7 rfl 40 #[.string (str x.n), .string (str x.p), .slice a2 x.a.length cap2] (0, 0) _ hy1.out Try.underlying40 rfl info_user ?_)
            | (go_at_call 22; refine hR.mono ?_; rintro e w5 ⟨rfl, e5⟩))
          go_ret3
          refine Ret.mk ⟨_, by rw [hn.out]; rfl, (ek.trans e4h.out).trans e5, fun h => ?_, fun _ => rfl⟩
          rw [hn.out] at h; cases h
        rw [hv] at hR
        cases bb
        rotate_left
        · have hn := Lib.hid (hd.out.twice hxh.out hk15.out hv (hbbh.out.1 rfl))
          go_wp2_with (first
            | (refine wpList_load_row rfl 40 _ rfl B7 rfl 40 #[.string (str x.n), .string (str x.p), .slice a2 x.a.length cap2] (0, 0) _ hy1.out Try.underlying40 rfl info_user ?_)
            | (go_at_call 22; refine hR.mono ?_; rintro e w5 ⟨rfl, e5⟩))
          go_ret3
          refine Ret.mk ⟨_, by rw [hn.out]; rfl, (ek.trans e4h.out).trans e5, fun h => ?_, fun _ => rfl⟩
          rw [hn.out] at h; cases h
        have hnin := Lib.hid (show x.n ∉ names (l.take k) from fun h => by have := hbbh.out.2 h; cases this)
        have hn := Lib.hid (hd.out.next hxh.out hk15.out hv hnin.out)
        go_upto_region 12 with (first
          | (refine wpList_load_row rfl 40 _ rfl B7 rfl 40 #[.string (str x.n), .string (str x.p), .slice a2 x.a.length cap2] (0, 0) _ hy1.out Try.underlying40 rfl info_user ?_)
          | (go_at_call 22; refine hR.mono ?_; rintro e w5 ⟨rfl, e5⟩))
        have e45 := Lib.hid (e4h.out.trans e5)
        have y5 := e5.heap hy1.out
        have hc5 := e5.cell hc4
        have hm5 := hm4h.out.ext e5
        clear hR hy1 hm4h hc4 hbbh hf
        have z2 := cell_of_row _ B7 2 _ _ _ y5
        have z2' : w5.cell? ⟨B7, 2, none⟩ = some (.slice a2 x.a.length cap2) := z2
        have f2 : w5.frozen? ⟨B7, 2, none⟩ = false := by simp [World.frozen?, y5]
        have hC := clone_any _ x.a w5 (hph.out.ext e45.out) hxs.out
        have y5h := Lib.hid y5
        have hm5h := Lib.hid hm5
        have hc5h := Lib.hid hc5
        clear y5 z2 hm5 e5 e4h hc5
        go_upto_region 13 with (go_at_call 23; refine hC.mono ?_; rintro e w6 ⟨u, rfl, hpu, ⟨au, cu, rfl⟩, e6⟩; have z6 := e6.cell z2'; have y6 := Lib.hid (e6.heap y5h.out); have f6 : w6.frozen? ⟨B7, 2, none⟩ = false := by simp [World.frozen?, y6.out])
        have r7 : (w6.setCell ⟨B7, 2, none⟩ (.slice au x.a.length cu)).heap[B7]? = some (.cells #[.string (str x.n), .string (str x.p), .slice au x.a.length cu] 40 (0, 0)) := setCell_row w6 B7 2 _ _ _ _ y6.out
        have ch7 : Chg (fun j => j = B7) w6 (w6.setCell ⟨B7, 2, none⟩ (.slice au x.a.length cu)) := (Chg.refl (fun j => j = B7) w6).setCell (x := ⟨B7, 2, none⟩) (fun _ => rfl) _
        generalize w6.setCell ⟨B7, 2, none⟩ (.slice au x.a.length cu) = W7 at *
        clear z2' f2 hC f6 z6
        have e56 := Lib.hid (e45.out.trans e6)
        clear e6
        have e7 : Ext wr W7 := e56.out.chg ch7 (fun i hi => by omega)
        have hm7 : MapS W7.drew B ps := hmx.out.ext e7.drew
        have hc7 : W7.cell? ⟨G, 0, none⟩ = some (.map (some B)) := e7.cell hc
        have c70 := cell_of_row _ B7 0 _ _ _ r7
        have c71 := cell_of_row _ B7 1 _ _ _ r7
        have c72 := cell_of_row _ B7 2 _ _ _ r7
        have hlk : look ps x.n = none := look_none fun q hq e => hnin.out (by rw [← htl.1, List.mem_map]; exact ⟨q, hq, e⟩)
        have hup := run_updateS Try.underlying48 Try.underlying9 hm7 x.n hlk (.agg #[.string (str x.n), .string (str x.p), .slice au x.a.length cu])
        go_region
        all_goals
          have hP := hm7.put x.n (.agg #[.string (str x.n), .string (str x.p), .slice au x.a.length cu])
          have hk7 := keeps_map hm7 hP.2
          have e67 : Kept w6 W7 := Kept.third y6.out r7 ch7
          have hkm := Kept.map hm7 hP.2
          go_wp2
          go_roundw
          case rel => exact ⟨k + 1, (ps ++ [(x.n, Value.agg #[Value.string (str x.n), Value.string (str x.p), Value.slice au x.a.length cu])] : List (List UInt8 × Value)), by omega, by have := hk15.out; omega, by go_num, hn, Lib.hid (by rw [names_take hxh.out]; exact nodup_more hnd.out hnin.out), hP.1, htl.more ((Kept.ext e7.drew).trans hkm) hxh.out ⟨au, cu, rfl, hpu.keeps (e67.trans hkm)⟩, hk7 _ _ hc7, (ek.trans e7.drew).chg hP.2 (fun i hi => by have := hBw.out.1; omega)⟩
          case measure => simp [intOf]; omega
    · obtain rfl : k = l.length := by omega
      have hn := Lib.hid hd.out.done
      go_wp2
      go_ret3
      refine Ret.mk ⟨_, by rw [hn.out]; rfl, ek, fun _ => ⟨G, B, ps, rfl, hc, hm, by rw [List.take_length] at htl; exact htl, by have := hnd.out; rw [List.take_length] at this; exact this⟩, fun h => absurd (by rw [hn.out]) h⟩
end Go.Proofs.Ytnhgkklbjhjggaa
