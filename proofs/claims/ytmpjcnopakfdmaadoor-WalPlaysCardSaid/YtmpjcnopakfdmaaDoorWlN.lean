/- The log's chapter: the example; a log behind things that were done. -/
import Derived.Test.YtmpjcnopakfdmaaDoorGWm
import Derived.Test.YtmpjcnopakfdmaaDoorFrK
namespace Go.Proofs.YtmpjcnopakfdmaaDoor
set_option linter.unusedVariables false
set_option linter.unusedSimpArgs false
open Go.RowKit Dk Wl Fr

def from_ (w : World) : Nat → Prop := fun k => w.heap.size ≤ k
theorem from_grow {w w1 : World} (e : Ext w w1) : ∀ k, grow (from_ w) w1 k → from_ w k := fun _ hk => hk.elim id fun h => Nat.le_trans e.size h
theorem not_from {w : World} (hw : Halves w) : ¬ from_ w 0 := fun h => by
  have := World.block_lt_of_cell? w _ (hw 0)
  have h2 : w.heap.size ≤ 0 := h
  omega
theorem Ext.fromC {w w1 w2 : World} (e : Ext w w1) (c : Chg (from_ w) w1 w2) : Ext w w2 := e.chg c fun _ h => h
attribute [local irreducible] opL mk
set_option maxRecDepth 20000 in
set_option maxHeartbeats 2000000 in
theorem awake10_any (w : World) (hw : Halves w) : Calls Tryd.prog 23 #[] w fun e w' => e = .returned (.bool true) ∧ Ext w w' := by
  obtain ⟨d', ho, hn6, hs, hsc⟩ := awake_log
  have hwh := Lib.hid hw
  have hsh := Lib.hid hs
  have hoh := Lib.hid ho
  have hsch := Lib.hid hsc
  have hclamp : clamp 6 = 6 := rfl
  have hop6 := Lib.hid (new_open (n := 6) (by decide) (by decide))
  have hR57 := Lib.hid (show 32 * areaN d'.n - 7 = 57 from by rw [hn6]; rfl)
  have q9 : seqL [[1]] [[1]] = true := seqL_true.2 rfl
  clear hw hs ho hsc hn6
  go_enter Tryd.func23, Tryd.ntmps23
  go_upto_region 4 with (go_at_call 40; refine (new_any 6 w).mono ?_; rintro e w1 ⟨v, rfl, p, rfl, h1, e1⟩)
  rw [hclamp] at h1
  have hop := lopen_m (F := from_ w) h1 (fun k hk => hk.1) (hwh.out.ext e1)
  rw [hop6.out.1, hop6.out.2.1, hop6.out.2.2] at hop
  clear h1
  go_upto_region 7 with (go_at_call 27; refine hop.mono ?_; rintro e w2 ⟨r, rfl, e2, ⟨h0, -⟩ | ⟨-, q, rfl, hq, l2⟩⟩; exact absurd rfl h0)
  have e02 := Lib.hid (e1.trans e2)
  have l2' := Lib.hid (l2.mono (from_grow e1))
  have hs0 := Lib.hid ((new_log (n := 6) (by decide) (by decide) 0).sane)
  have eA := (Ext.refl w2).alloc (.cells #[.int .u8 1] 5)
  have hap := lappend_any (b := [1]) (l2'.out.ext eA) hs0.out (by show (mk 6).st.length ≤ _; unfold mk; exact Nat.zero_le _) (hwh.out.ext (e02.out.trans eA)) (not_from hwh.out) (Bytes.lit (w := w2) (C := #[.int .u8 1]) (e := 5) (l := [1]) (n := 1) (cap := 1) rfl rfl rfl (Nat.le_refl _) (show 1 ≤ maxLen by decide))
  rw [hoh.out] at hap
  have eAh := Lib.hid (e02.out.trans eA)
  clear hop l2 e1 e2 hq eA
  go_upto_region 8 with (go_at_call 37; refine hap.mono ?_; rintro e w3 ⟨rfl, c3, l3⟩)
  have l3' := Lib.hid (l3.mono (from_grow eAh.out))
  have e3 := Lib.hid (eAh.out.fromC c3)
  have hR := lroom_m l3'.out hsh.out
  rw [hR57.out] at hR
  have hU := lused_m l3'.out
  have hG := fun W (l : LogM W (from_ w) q p ⟨d', ⟨1, 0, 7⟩, frm [1]⟩) => lgen_m l
  have hRc := fun W (l : LogM W (from_ w) q p ⟨d', ⟨1, 0, 7⟩, frm [1]⟩) (hh : Halves W) => lrecords_m l hsh.out hh
  rw [show scan (⟨d', ⟨1, 0, 7⟩, frm [1]⟩ : Lg).u = [[1]] from hsch.out] at hRc
  clear hap c3 l3
  have hB := Lib.hid (fun W : World => show LL ((W.alloc (.cells #[.int .u8 1] 5)).alloc (.cells #[.slice (some ⟨W.heap.size, 0, none⟩) 1 1] 22)) (.slice (some ⟨W.heap.size + 1, 0, none⟩) 1 1) [[1]] from by
    have h := cell_one_new (W.alloc (.cells #[.int .u8 1] 5)) (.slice (some ⟨W.heap.size, 0, none⟩) 1 1) 22 0 _ rfl
    rw [World.size_alloc] at h
    exact LL.one h ((Bytes.lit (l := [1]) (n := 1) (cap := 1) rfl rfl rfl (Nat.le_refl _) (by decide)).ext ((Ext.refl _).alloc _)))
  go_wp2_with (first
    | (go_at_call 41; refine hU.mono ?_; rintro e w' ⟨rfl, rfl⟩)
    | (go_at_call 51; refine hR.mono ?_; rintro e w4 ⟨rfl, e4⟩)
    | (go_at_call 42; refine (hG _ (l3'.out.ext e4)).mono ?_; rintro e w' ⟨rfl, rfl⟩)
    | (go_at_call 33; refine (hRc _ (l3'.out.ext e4) (hwh.out.ext (e3.out.trans e4))).mono ?_; rintro e w5 ⟨v5, rfl, o5, e5⟩)
    | (go_at_call 21; refine (lists_any _ _ _ _ _ (o5.ll.ext (((Ext.refl w5).alloc _).alloc _)) (hB.out w5)).mono ?_; rintro e w6 ⟨rfl, e6⟩))
  go_ret
  exact ⟨rfl, ((((e3.out.trans e4).trans e5).alloc _).alloc _).trans e6⟩
theorem info_wop : (Tryd.prog.info? 61).map (·.size) = some 5 := by kernel_rfl
theorem wk_facts {n : Nat} (h4 : 4 ≤ n) (h512 : n ≤ 512) (l : List Wop) : Sane (wk n l) ∧ (wk n l).d.st.length ≤ 100000 := by
  obtain ⟨rs, h1, _⟩ := wk_lw h4 h512 0 l
  exact ⟨h1.sane, by rw [h1.st]; exact Nat.zero_le _⟩
theorem from_after {w wr W : World} (e : Ext w wr) (c : Chg (from_ w) wr W) : Ext w W := e.chg c fun _ h => h
attribute [local irreducible] wk
set_option maxRecDepth 20000 in
set_option maxHeartbeats 2000000 in
theorem walked_any {n : Nat} (h4 : 4 ≤ n) (h512 : n ≤ 512) (v : Value) (l : List Wop) (w : World) (h : Wops w v l) (hf : ∀ x ∈ l, x.ls.length ≤ 20) (hw : Halves w) :
    Calls Tryd.prog 32 #[.int .i64 (n : Int), v] w (Ret fun u w' => ∃ p q, u = .tuple #[.pointer (some ⟨p, 0, none⟩), .pointer (some ⟨q, 0, none⟩)] ∧ Ext w w' ∧ LogM w' (from_ w) q p (wk n l)) := by
  obtain ⟨a, cap, rfl, hlm, hget⟩ := h.get
  have hgh := Lib.hid hget
  have hfh := Lib.hid hf
  have hwh := Lib.hid hw
  have hop := Lib.hid (new_open h4 h512)
  have hwf := Lib.hid (fun l : List Wop => wk_facts h4 h512 l)
  have hcl : clamp (n : Int) = n := by unfold clamp; omega
  have hst : RowKit.Hid (wk n (l.take 0) = ⟨mk n, H.zero, []⟩) := Lib.hid (by unfold wk; rfl)
  clear h hget hf hw h4 h512
  go_enter Tryd.func32, Tryd.ntmps32
  go_upto_region 4 with (go_at_call 40; refine (new_any _ w).mono ?_; rintro e w1 ⟨v, rfl, p, rfl, h1, e1⟩)
  rw [hcl] at h1
  have hopen := lopen_m (F := from_ w) h1 (fun k hk => hk.1) (hwh.out.ext e1)
  rw [hop.out.1, hop.out.2.1, hop.out.2.2] at hopen
  have e1h := Lib.hid e1
  clear h1 hcl e1
  go_wp2_with (go_at_call 27; refine hopen.mono ?_; rintro e w2 ⟨r, rfl, e2, ⟨h0, -⟩ | ⟨-, q, rfl, hq, l2⟩⟩; exact absurd rfl h0)
  have e2h := Lib.hid (e1h.out.trans e2)
  have l2h := Lib.hid (show LogM w2 (from_ w) q p (wk n (l.take 0)) from by rw [hst.out]; exact l2.mono (from_grow e1h.out))
  clear hopen e2 l2 hq
  go_loopw [9] (fun i wr => ∃ k : Nat, k ≤ l.length ∧ i = .int .i64 (k : Int) ∧ RowKit.Hid (LogM wr (from_ w) q p (wk n (l.take k))) ∧ RowKit.Hid (Ext w wr)) (fun i _ => l.length - (intOf i).toNat)
  case atStart => exact ⟨0, Nat.zero_le _, rfl, l2h, e2h⟩
  case round =>
    obtain ⟨k, hk, rfl, hd, ek⟩ := hrel
    by_cases hlt : k < l.length
    · obtain ⟨g, o, rfl, vb, vl, vp, hr, hb, hv, hp, r1, r2⟩ := hgh.out k hlt
      have hki : (k : Int) < (l.length : Int) := by omega
      have hnx := Lib.hid (wk_take (n := n) hlt)
      have hrw : wr.rangeAt g (o + k * 5) [.int .i64 l[k].what, .int .i64 l[k].n, vb, vl, vp] := fun j u hu => ek.out.cell (hr j u hu)
      have c0 : wr.cell? ⟨g, o + k * 5, none⟩ = some (.int .i64 l[k].what) := hrw 0 _ rfl
      have hrwh := Lib.hid hrw
      obtain ⟨s, hs⟩ := hwf.out (l.take k)
      have hD := Lib.hid (fun (hx : l[k].what = 1 ∨ l[k].what = 2) => ldo_any (.pointer (some ⟨p, 0, none⟩)) l[k] hx hd.out s hs (hwh.out.ext ek.out) (not_from hwh.out) (hb.ext ek.out) (hv.ext ek.out) (by have := hfh.out l[k] (List.getElem_mem hlt); omega) (hp.ext ek.out))
      have hsw := Lib.hid (show ∀ g, stepW g l[k] = if l[k].what = 1 ∨ l[k].what = 2 then (opL (opOf l[k]) g).2 else g from fun g => rfl)
      clear hr hb hv hp hrw hs s
      generalize l[k] = x at *
      generalize wk n (l.take k) = dk at *
      have hx : x.what = 1 ∨ x.what = 2 ∨ ((x.what == 1) = false ∧ (x.what == 2) = false ∧ ¬ (x.what = 1 ∨ x.what = 2)) := by
        by_cases h1 : x.what = 1
        · exact .inl h1
        · by_cases h2 : x.what = 2
          · exact .inr (.inl h2)
          · exact .inr (.inr ⟨by rw [beq_eq_false_iff_ne]; exact h1, by rw [beq_eq_false_iff_ne]; exact h2, fun h => h.elim h1 h2⟩)
      rcases hx with hx | hx | ⟨p1, p2, hx⟩
      · have hDx := hD.out (.inl hx)
        have hnx2 := Lib.hid (show wk n (l.take (k + 1)) = (opL (opOf x) dk).2 from by rw [hnx.out, hsw.out, if_pos (.inl hx)])
        clear hD hsw hnx
        rw [hx] at hDx c0 hrwh
        go_wp2_with (first
          | (refine wpList_load_mid rfl 61 _ rfl g (o + k * 5) rfl [.int .i64 1, .int .i64 x.n, vb, vl, vp] _ hrwh.out Tryd.underlying61 rfl info_wop ?_)
          | (go_at_call 35; refine hDx.mono ?_; rintro e w2 ⟨rfl, c2, l2⟩))
        go_roundw
        case rel => exact ⟨k + 1, by omega, by go_num, Lib.hid (by rw [hnx2.out]; exact l2.mono (from_grow ek.out)), Lib.hid (from_after ek.out c2)⟩
        case measure => simp [intOf]; omega
      · have hDx := hD.out (.inr hx)
        have hnx2 := Lib.hid (show wk n (l.take (k + 1)) = (opL (opOf x) dk).2 from by rw [hnx.out, hsw.out, if_pos (.inr hx)])
        clear hD hsw hnx
        rw [hx] at hDx c0 hrwh
        go_wp2_with (first
          | (refine wpList_load_mid rfl 61 _ rfl g (o + k * 5) rfl [.int .i64 2, .int .i64 x.n, vb, vl, vp] _ hrwh.out Tryd.underlying61 rfl info_wop ?_)
          | (go_at_call 35; refine hDx.mono ?_; rintro e w2 ⟨rfl, c2, l2⟩))
        go_roundw
        case rel => exact ⟨k + 1, by omega, by go_num, Lib.hid (by rw [hnx2.out]; exact l2.mono (from_grow ek.out)), Lib.hid (from_after ek.out c2)⟩
        case measure => simp [intOf]; omega
      · have hnx2 := Lib.hid (show wk n (l.take (k + 1)) = dk from by rw [hnx.out, hsw.out, if_neg hx])
        clear hD hsw hnx hx
        go_wp2
        go_roundw
        case rel => exact ⟨k + 1, by omega, by go_num, by rw [hnx2.out]; exact hd, ek⟩
        case measure => simp [intOf]; omega
    · obtain rfl : k = l.length := by omega
      rw [List.take_length] at hd
      go_wp2
      go_ret2
      exact Ret.mk ⟨p, q, rfl, ek.out, hd.out⟩
end Go.Proofs.YtmpjcnopakfdmaaDoor
