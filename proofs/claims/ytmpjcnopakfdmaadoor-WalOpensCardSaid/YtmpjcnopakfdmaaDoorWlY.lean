/- WalOpens: the walk. -/
import Derived.Test.YtmpjcnopakfdmaaDoorWlX
namespace Go.Proofs.YtmpjcnopakfdmaaDoor
set_option linter.unusedVariables false
set_option linter.unusedSimpArgs false
open Go.RowKit Dk Wl Fr

attribute [local irreducible] openE openH openU opn
/-- a row of bytes that the call owns, of so many bytes -/
def RowB (w : World) (base : Nat) (v : Value) (n : Nat) : Prop := ∃ C : List UInt8, C.length = n ∧ OwnB w base v C
theorem RowB.ext {w w' : World} {base n : Nat} {v : Value} (h : RowB w base v n) (e : Ext w w') : RowB w' base v n := by
  obtain ⟨C, h1, h2⟩ := h
  exact ⟨C, h1, h2.ext e⟩
theorem RowB.at_ {w : World} {base n : Nat} {v : Value} (h : RowB w base v n) (hn : 0 < n) : ∃ g cap, v = .slice (some ⟨g, 0, none⟩) n cap ∧ base ≤ g ∧ g < w.heap.size ∧ ∀ j, j < n → (∃ u, w.cell? ⟨g, j, none⟩ = some u) ∧ w.frozen? ⟨g, j, none⟩ = false ∧ ∀ c : UInt8, RowB (w.setCell ⟨g, j, none⟩ (.int .u8 (c.toNat : Int))) base v n := by
  obtain ⟨C, h1, h2⟩ := h
  obtain ⟨g, cap, e, h3, h4, h5, h6, h7⟩ := h2.cells (by omega)
  exact ⟨g, cap, by rw [e, h1], h3, h4, fun j hj => ⟨⟨_, h5 j (by omega)⟩, h6 j, fun c => ⟨_, by rw [List.length_set, h1], h7 j c⟩⟩⟩
set_option maxRecDepth 20000 in
set_option maxHeartbeats 4000000 in
theorem walOpens_any (v0 : Value) (b : List UInt8) (v1 : Value) (gens : List Nat) (us : Nat) (area : Bool) (v4 : Value) (ls : List (List UInt8)) (w : World) (hw : Halves w) (h0 : Bytes w v0 b) (h1 : Sl un w v1 gens) (hg : ∀ x ∈ gens, x < 4294967296) (hus : us < 65536) (h4 : LL w v4 ls) :
    Calls Tryd.prog 7 #[v0, v1, .int .u16 (us : Int), .bool area, v4] w (LawEnd w) := by
  have haw := awake10_any w hw
  have hwh := Lib.hid hw
  have h0h := Lib.hid h0
  have h1h := Lib.hid h1
  have h4h := Lib.hid h4
  have hgh := Lib.hid hg
  have hush := Lib.hid hus
  obtain ⟨a0, c0, rfl, -⟩ := h0
  obtain ⟨a1, c1, rfl, hs1⟩ := h1
  obtain ⟨a4, c4, rfl, -⟩ := h4.get
  have hs1h := Lib.hid hs1
  clear hw hg hus h4 hs1
  go_enter Tryd.func7, Tryd.ntmps7
  go_upto_region 3 with (first
    | (go_at_call 23; refine haw.mono ?_; rintro e w1 ⟨rfl, e1⟩)
    | (go_at_call 13; refine (few09_any _ _ _ (h4h.out.ext e1)).mono ?_; rintro e w1' ⟨rfl, rfl⟩))
  cases hf : fewF ls
  · go_wp2
    go_ret
    exact ⟨rfl, e1⟩
  have hls := Lib.hid (fewF_ok hf).1
  clear hf haw
  by_cases hb1 : 1000 < b.length
  · go_wp2
    go_ret
    exact ⟨rfl, e1⟩
  by_cases hg2 : 2 < gens.length
  · go_wp2
    go_ret
    exact ⟨rfl, e1⟩
  have hbl := Lib.hid (show b.length ≤ 1000 by omega)
  have hgl := Lib.hid (show gens.length ≤ 2 by omega)
  have e1h := Lib.hid e1
  clear e1
  go_upto_region 6 with (at_builtin; refine wpList_appendB rfl (.tmp 43) (.tmp 44) rfl w1.heap.size _ [] rfl (OwnB.empty rfl (Nat.le_refl _)) _ b rfl (h0h.out.ext (e1h.out.trans ((Ext.refl w1).alloc _))) (by have := hbl.out; simp; omega) ((Ext.refl w1).alloc _).size ?_; intro v2 w2 o2 g2)
  have e2h := Lib.hid ((e1h.out.alloc (.cells #[] 5)).grown g2 fun k hk => by cases hk; exact e1h.out.size)
  have o2' : OwnB w2 w1.heap.size v2 b := o2
  obtain ⟨ac, cc, rfl, -⟩ := o2'.bytes
  have hrow := Lib.hid (show RowB w2 w1.heap.size (.slice ac b.length cc) b.length from ⟨b, rfl, o2'⟩)
  clear o2 g2 o2' hb1 hg2
  go_upto_if 46 with fail
  go_cut [14] (fun x wd => ∃ A : Nat, A < 2 ∧ x = .int .i64 (A : Int) ∧ wd = w2)
  case first =>
    cases area
    · go_wp2
      go_meet
      exact ⟨0, by decide, rfl, rfl⟩
    · go_wp2
      go_meet
      exact ⟨1, by decide, rfl, rfl⟩
  case rest =>
    obtain ⟨A, hA, rfl, hwc⟩ := hcut
    obtain rfl : w2 = wc := hwc.symm
    have hAh := Lib.hid hA
    clear hA
    go_upto_block 0 with fail
    go_cut [13] (fun x wd => x = .slice ac b.length cc ∧ RowB wd w1.heap.size (.slice ac b.length cc) b.length ∧ Ext w wd ∧ w2.heap.size ≤ wd.heap.size)
    case first =>
      go_wp2_with fail
      go_loopw [15] (fun i wr => ∃ k : Nat, k ≤ gens.length ∧ i = .int .i64 (k : Int) ∧ RowKit.Hid (RowB wr w1.heap.size (.slice ac b.length cc) b.length) ∧ RowKit.Hid (Ext w wr) ∧ RowKit.Hid (w2.heap.size ≤ wr.heap.size)) (fun i _ => gens.length - (intOf i).toNat)
      case atStart => exact ⟨0, Nat.zero_le _, rfl, hrow, e2h, Lib.hid (Nat.le_refl _)⟩
      case round =>
        obtain ⟨k, hk, rfl, hr, ek, hsk⟩ := hrel
        obtain ⟨w3, rfl⟩ : ∃ W, W = wr := ⟨_, rfl⟩
        have hk2 : k ≤ 2 := by have := hgl.out; omega
        have g1 : IntKind.i64.wrap (32 * (k : Int)) = 32 * (k : Int) := wrap_le (by omega) (by omega)
        have g2 : IntKind.i64.wrap (32 * (k : Int) + 8) = 32 * (k : Int) + 8 := wrap_le (by omega) (by omega)
        have g3 : IntKind.i64.wrap ((k : Int) + 1) = (k : Int) + 1 := wrap_le (by omega) (by omega)
        by_cases hlt : k < gens.length
        · have hki : (k : Int) < (gens.length : Int) := by omega
          by_cases hfit : 32 * k + 8 ≤ b.length
          · have hfi : 32 * (k : Int) + 8 ≤ (b.length : Int) := by omega
            obtain ⟨gu, ou, rfl, cu⟩ := (hs1h.out.ext ek.out).cells k gens[k] (List.getElem?_eq_getElem hlt)
            have hx := hgh.out gens[k] (List.getElem_mem hlt)
            generalize gens[k] = x at *
            unfold un at cu
            obtain ⟨X, hX⟩ : ∃ X, X = x % 262144 := ⟨_, rfl⟩
            obtain ⟨U, hU⟩ : ∃ U, U = us % 8192 := ⟨_, rfl⟩
            have t1 : Int.tmod (x : Int) 262144 = (X : Int) := by rw [Int.tmod_eq_emod_of_nonneg (by omega)]; omega
            have t1' : (x : Int) % 262144 = (X : Int) := by omega
            have t2 : Int.tmod (us : Int) 8192 = (U : Int) := by rw [Int.tmod_eq_emod_of_nonneg (by omega)]; omega
            have t2' : (us : Int) % 8192 = (U : Int) := by omega
            have t3 : IntKind.u32.wrap (X : Int) = (X : Int) := by rw [IntKind.wrap_u32]; omega
            have t4 : IntKind.u16.wrap (U : Int) = (U : Int) := by rw [IntKind.wrap_u16]; omega
            have t5 : IntKind.i64.wrap (X : Int) = (X : Int) := wrap_le (by omega) (by omega)
            have t6 : IntKind.i64.wrap (U : Int) = (U : Int) := wrap_le (by omega) (by omega)
            have hhd := Lib.hid (rhead_any ⟨X, A, U⟩ ⟨by show X < 262144; omega, hAh.out, by show U < 8192; omega⟩ w3)
            clear hX hU
            go_upto_block 2 with (go_at_call 24; refine hhd.out.mono ?_; rintro e w4 ⟨v4', rfl, o4, e4⟩)
            have h8 := hb_length ⟨X, A, U⟩
            generalize hb ⟨X, A, U⟩ = HB at *
            obtain ⟨gh, ch, rfl, hgb, -, hch, -, -⟩ := o4.cells (by omega)
            rw [h8] at hch ⊢
            obtain ⟨g, cap, he, hgB, hgl3, -⟩ := hr.out.at_ (by omega)
            simp only [Value.slice.injEq] at he
            obtain ⟨rfl, -, rfl⟩ := he
            have hne := Lib.hid (show g ≠ gh from by omega)
            have hgw := Lib.hid (show w.heap.size ≤ g from Nat.le_trans e1h.out.size hgB)
            have hr4 := Lib.hid (hr.out.ext e4)
            have e4h := Lib.hid (ek.out.trans e4)
            have hs4 := Lib.hid (Nat.le_trans hsk.out e4.size)
            have hchh := Lib.hid hch
            have hfitl := Lib.hid (show 32 * k + 8 ≤ b.length ∧ b.length ≤ 1000 from ⟨hfit, hbl.out⟩)
            clear o4 e4 hch hgb hgB hgl3 h8 t1 t1' t2 t2' t3 t4 t5 t6 cu
            go_wp2_with fail
            go_loopw [17] (fun j wr => ∃ n : Nat, n ≤ 8 ∧ j = .int .i64 (n : Int) ∧ RowKit.Hid (RowB wr w1.heap.size (.slice (some ⟨g, 0, none⟩) b.length cc) b.length) ∧ RowKit.Hid (Ext w wr) ∧ RowKit.Hid (w2.heap.size ≤ wr.heap.size) ∧ RowKit.Hid (∀ j, j < 8 → wr.cell? ⟨gh, j, none⟩ = some (.int .u8 ((HB.getD j 0).toNat : Int)))) (fun j _ => 8 - (intOf j).toNat)
            case atStart => exact ⟨0, by omega, rfl, hr4, e4h, hs4, hchh⟩
            case round =>
              obtain ⟨n, hn, rfl, hrn, en, hsn, hcn⟩ := hrel
              by_cases hn8 : n < 8
              · obtain ⟨g', cap', he', hgB', hgl', hat⟩ := hrn.out.at_ (by omega)
                simp only [Value.slice.injEq, Option.some.injEq, Addr.mk.injEq] at he'
                obtain ⟨⟨hgg, -⟩, -, -⟩ := he'
                subst hgg
                obtain ⟨⟨u, cu⟩, fz, hset⟩ := hat (32 * k + n) (by omega)
                have chn := hcn.out n hn8
                have q1 : IntKind.i64.wrap (32 * (k : Int) + (n : Int)) = ((32 * k + n : Nat) : Int) := by rw [show 32 * (k : Int) + (n : Int) = ((32 * k + n : Nat) : Int) by omega]; exact wrap_sm (by omega)
                have q2 : IntKind.i64.wrap ((n : Int) + 1) = (n : Int) + 1 := wrap_le (by omega) (by omega)
                have hn8i : (n : Int) < 8 := by omega
                obtain ⟨N, hN⟩ : ∃ N, N = 32 * k + n := ⟨_, rfl⟩
                rw [← hN] at cu fz hset q1
                have q3 : (N : Int) < (b.length : Int) := by omega
                have hseth := Lib.hid hset
                generalize HB.getD n 0 = c at *
                have hcset := Lib.hid (show ∀ j, j < 8 → (wr.setCell ⟨g, N, none⟩ (.int .u8 (c.toNat : Int))).cell? ⟨gh, j, none⟩ = some (.int .u8 ((HB.getD j 0).toNat : Int)) from fun j hj => by rw [World.cell?_setCell_far _ _ _ _ hne.out]; exact hcn.out j hj)
                clear hset hat hgB' hgl' hN
                go_wp2
                go_roundw
                case rel => exact ⟨n + 1, by omega, by go_num, Lib.hid (hseth.out c), Lib.hid (en.out.cellSet hgw.out _ _), Lib.hid (by rw [show (wr.setCell ⟨g, N, none⟩ (.int .u8 (c.toNat : Int))).heap.size = wr.heap.size from by simp [World.setCell]]; exact hsn.out), hcset⟩
                case measure => simp [intOf]; omega
              · obtain rfl : n = 8 := by omega
                go_wp2
                go_roundw
                case rel => exact ⟨k + 1, by omega, by go_num, hrn, en, hsn⟩
                case measure => simp [intOf]; omega
          · have hfi : ¬ 32 * (k : Int) + 8 ≤ (b.length : Int) := by omega
            go_wp2
            go_meet
            exact ⟨rfl, hr.out, ek.out, hsk.out⟩
        · have hki : ¬ (k : Int) < (gens.length : Int) := by omega
          go_wp2
          go_meet
          exact ⟨rfl, hr.out, ek.out, hsk.out⟩
    case rest =>
      obtain ⟨rfl, hrow3, e3, hs3⟩ := hcut
      obtain ⟨w3, rfl⟩ : ∃ W, W = wc := ⟨_, rfl⟩
      have hrow3h := Lib.hid hrow3
      have e3h := Lib.hid e3
      have hal := rall_any _ ls w3 (h4h.out.ext e3) (by have := hls.out; omega)
      clear hrow3 e3
      go_upto_block 4 with (go_at_call 17; refine hal.mono ?_; rintro e w4 ⟨r, rfl, x, rfl, e4, hx⟩)
      have hfb := allB_of hx
      have hfo := Lib.hid (show ∀ k, vblk x = some k → allB ls ≠ [] → w3.heap.size ≤ k from fun k hk hl => by
        unfold allB at hl
        rcases hx with ⟨h1, h2⟩ | ⟨h1, rfl⟩
        · rw [if_pos h1] at hl
          obtain ⟨g, cap, rfl, h3, -⟩ := h2.cells (List.length_pos_iff.2 hl)
          cases hk
          exact h3
        · cases hk)
      obtain ⟨ax, cx, rfl, -⟩ := id hfb
      have hfbh := Lib.hid hfb
      have hrow4 := Lib.hid (hrow3h.out.ext e4)
      have e4h := Lib.hid (e3h.out.trans e4)
      have hbg := Lib.hid (show 0 < b.length → ∃ g, ac = some ⟨g, 0, none⟩ ∧ g < w3.heap.size ∧ w.heap.size ≤ g from fun h => by
        obtain ⟨g, cap, he, h2, h3, -⟩ := hrow3h.out.at_ h
        simp only [Value.slice.injEq] at he
        exact ⟨g, he.1, h3, Nat.le_trans e1h.out.size h2⟩)
      clear hal hx hfb e4
      generalize allB ls = f at *
      go_cut [13] (fun x wd => x = .slice ac b.length cc ∧ RowB wd w1.heap.size (.slice ac b.length cc) b.length ∧ Ext w wd)
      case first =>
        go_wp2_with fail
        go_loopw [20] (fun i wr => ∃ n : Nat, n ≤ f.length ∧ n ≤ 1000 ∧ i = .int .i64 (n : Int) ∧ RowKit.Hid (RowB wr w1.heap.size (.slice ac b.length cc) b.length) ∧ RowKit.Hid (Ext w wr) ∧ RowKit.Hid (Bytes wr (.slice ax f.length cx) f)) (fun i _ => f.length - (intOf i).toNat)
        case atStart => exact ⟨0, Nat.zero_le _, Nat.zero_le _, rfl, hrow4, e4h, hfbh⟩
        case round =>
          obtain ⟨n, hn, hn1, rfl, hrn, en, hbn⟩ := hrel
          by_cases hlt : n < f.length
          · have hni : (n : Int) < (f.length : Int) := by omega
            by_cases hfit : 64 + n < b.length
            · have hb1000 := hbl.out
              obtain ⟨N, hN⟩ : ∃ N, N = 64 + n := ⟨_, rfl⟩
              have q1 : IntKind.i64.wrap (64 + (n : Int)) = (N : Int) := by rw [show 64 + (n : Int) = (N : Int) by omega]; exact wrap_sm (by omega)
              have q2 : IntKind.i64.wrap ((n : Int) + 1) = (n : Int) + 1 := wrap_le (by omega) (by omega)
              have q3 : (N : Int) < (b.length : Int) := by omega
              have q4 : N < b.length := by omega
              obtain ⟨g, rfl, hgl, hgw⟩ := hbg.out (by omega)
              obtain ⟨g', cap', he', -, -, hat⟩ := hrn.out.at_ (by omega)
              simp only [Value.slice.injEq, Option.some.injEq, Addr.mk.injEq] at he'
              obtain ⟨⟨hgg, -⟩, -, -⟩ := he'
              subst hgg
              obtain ⟨⟨u, cu⟩, fz, hset⟩ := hat N q4
              obtain ⟨gf, of, rfl⟩ := hbn.out.ad (by omega)
              have cf := hbn.out.gt n hlt
              have hseth := Lib.hid hset
              have hbset := Lib.hid (fun c : UInt8 => hbn.out.chgV (F := fun k => k = g) ((Chg.refl (fun k => k = g) wr).setCell (x := ⟨g, N, none⟩) (fun _ => rfl) (.int .u8 (c.toNat : Int))) (fun k hk hl e => by have := hfo.out k hk hl; omega))
              generalize f.getD n 0 = c at *
              have hgwh := Lib.hid hgw
              clear hset hat hN hgl hgw
              go_wp2
              go_roundw
              case rel => exact ⟨n + 1, by omega, by omega, by go_num, Lib.hid (hseth.out c), Lib.hid (en.out.cellSet hgwh.out _ _), Lib.hid (hbset.out c)⟩
              case measure => simp [intOf]; omega
            · have q1 : IntKind.i64.wrap (64 + (n : Int)) = 64 + (n : Int) := wrap_le (by omega) (by omega)
              have q3 : ¬ 64 + (n : Int) < (b.length : Int) := by omega
              go_wp2
              go_meet
              exact ⟨rfl, hrn.out, en.out⟩
          · have hni : ¬ (n : Int) < (f.length : Int) := by omega
            go_wp2
            go_meet
            exact ⟨rfl, hrn.out, en.out⟩
      case rest =>
        obtain ⟨rfl, hrow5, e5⟩ := hcut
        obtain ⟨w5, rfl⟩ : ∃ W, W = wc := ⟨_, rfl⟩
        obtain ⟨C, hCl, oC⟩ := hrow5
        have hbC := Lib.hid oC.bytes
        have e5h := Lib.hid e5
        have hdo := open_any (.slice ac b.length cc) C w5 hbC.out
        have hro := Lib.hid (fun W (e : Ext w5 W) => refOpen_any (.slice ac b.length cc) C W (hbC.out.ext e))
        have hok := Lib.hid (opn_ok C)
        have hst0 := Lib.hid (opn_to C).2.1
        clear oC e5 hCl
        generalize opn C = d at *
        go_upto_region 23 with (go_at_call 25; refine hdo.mono ?_; rintro e w6 ⟨v6, rfl, p, rfl, hD, e6⟩)
        have e6h := Lib.hid (e5h.out.trans e6)
        have hDh := Lib.hid hD
        have hro6 := hro.out _ e6
        have hfr6 := Lib.hid (show ∀ k, w5.heap.size ≤ k ∧ k < w6.heap.size → from_ w k from fun k hk => Nat.le_trans e5h.out.size hk.1)
        clear hdo hro hD e6
        go_upto_region 24 with (go_at_call 26; refine hro6.mono ?_; rintro e w7 ⟨v7, rfl, p2, rfl, ⟨vk, k0, hok7, hp2, k1⟩, e7⟩)
        have e7h := Lib.hid (e6h.out.trans e7)
        obtain ⟨ak, ck, rfl, -⟩ := hok7.bytes
        have hR := Lib.hid (show ROpen w7 p2 d from ⟨hok.out, hst0.out, ⟨ak, ck, k0, hok7.bytes⟩, k1⟩)
        have hopn := lopen_m (F := from_ w) (hDh.out.ext e7) hfr6.out (hwh.out.ext e7h.out)
        have hropn := Lib.hid (fun W (e : Ext w7 W) => ropen_any ((hR.out.ext e).rv) hok.out)
        clear hro6 k0 hok7 hp2 k1
        have hsqk : seq d.kept d.kept = true := seq_self _
        have hEn : (openE d != openE d) = false := by simp
        by_cases hE : openE d = 0
        · rw [hE] at hopn hropn
          have hsn := Lib.hid (open_sane hok.out hE)
          clear hEn
          go_upto_region 27 with (go_at_call 27; refine hopn.mono ?_; rintro e w8 ⟨r, rfl, e8, ⟨h0, -⟩ | ⟨-, q, rfl, hq, l8⟩⟩; exact absurd rfl h0)
          have hrop8 := hropn.out w8 e8
          have l8h := Lib.hid (l8.mono (from_grow e7h.out))
          have e8h := Lib.hid e8
          clear hopn hropn l8 hq e8
          go_upto_region 28 with (go_at_call 28; refine hrop8.mono ?_; rintro e w9 ⟨r, rfl, e9, ⟨h0, -⟩ | ⟨-, q2, rfl, hq2, vl, rl, ol⟩⟩; exact absurd rfl h0)
          have l9h := Lib.hid (l8h.out.ext e9)
          have e79 := Lib.hid (e8h.out.trans e9)
          have e9h := Lib.hid (e7h.out.trans e79.out)
          have hR9 := Lib.hid (hR.out.ext e79.out)
          have hsm := Lib.hid (fun W (e : Ext w9 W) => lsame_any (l9h.out.ext e) hsn.out (hwh.out.ext (e9h.out.trans e)) (rl.ext e) ((hR9.out.ext e).rv) ((hR9.out.ext e).shows) (ol.ll.ext e))
          obtain ⟨ak', ck', k0, hk0⟩ := hR9.out.kept
          have hkb9 := Lib.hid hk0
          have hS := Lib.hid (show ∀ W, Ext w9 W → W.cell? ⟨p2, 0, none⟩ = some (.slice ak' d.kept.length ck') from fun W e => e.cell k0)
          have hBy := Lib.hid (show ∀ W, Ext w9 W → Calls Tryd.prog 30 #[.pointer (some ⟨p, 0, none⟩)] W (Ret fun v w' => Bytes w' v d.kept ∧ Ext W w') from fun W e => by
            obtain ⟨G, hD, -⟩ := (l9h.out.ext e).disk
            exact bytes_any hD)
          have e99 := Ext.refl w9
          clear hrop8 rl ol k0 hk0 hq2 e9
          go_upto_region 30 with fail
          go_region_held3 (fun W => W.cell? ⟨p2, 0, none⟩ = some (.slice ak' d.kept.length ck'))
            ((refine hS.out _ ?_; first | exact (e99.drew.trans e10).trans e11 | exact e99.drew.trans e10 | exact e99.drew))
            (first
              | (go_at_call 29; refine (hsm.out _ e99.drew).mono ?_; rintro e w10 ⟨rfl, e10⟩)
              | (go_at_call 30; refine (hBy.out _ (e99.drew.trans e10)).mono ?_; rintro e w11 ⟨v11, rfl, b11, e11⟩)
              | (go_at_call 20; refine (same9_any _ _ _ _ w11 b11 (hkb9.out.ext ((e99.drew.trans e10).trans e11))).mono ?_; rintro e w' ⟨rfl, rfl⟩))
          all_goals go_wp2
          all_goals go_ret
          all_goals exact ⟨rfl, e9h.out.trans ((e99.drew.trans e10).trans e11)⟩
        · go_upto_region 27 with (go_at_call 27; refine hopn.mono ?_; rintro e w8 ⟨r, rfl, e8, ⟨-, rfl⟩ | ⟨h0, -⟩⟩; rotate_left; exact absurd h0 hE)
          have hrop8 := hropn.out w8 e8
          have e8h := Lib.hid e8
          clear hopn hropn e8
          go_upto_region 28 with (go_at_call 28; refine hrop8.mono ?_; rintro e w9 ⟨r, rfl, e9, ⟨-, rfl⟩ | ⟨h0, -⟩⟩; rotate_left; exact absurd h0 hE)
          have e79 := Lib.hid (e8h.out.trans e9)
          have e9h := Lib.hid (e7h.out.trans e79.out)
          obtain ⟨ak', ck', k0, hk0⟩ := (hR.out.ext e79.out).kept
          have hS := Lib.hid (show ∀ W, Ext w9 W → W.cell? ⟨p2, 0, none⟩ = some (.slice ak' d.kept.length ck') from fun W e => e.cell k0)
          have hkb := Lib.hid (fun W (e : Ext w9 W) => hk0.ext e)
          have hD7 := Lib.hid (hDh.out.ext e7)
          have hBy := Lib.hid (fun W (e : Ext w9 W) => bytes_any ((hD7.out.ext e79.out).ext e))
          have e99 := Ext.refl w9
          clear hrop8 k0 hk0 e9
          go_upto_region 30 with fail
          -- BEGIN NOLOG
          refine wp_region_held_drew (S := (fun W => W.cell? ⟨p2, 0, none⟩ = some (.slice ak' d.kept.length ck'))) (by kernel_rfl) ?_ (fun hHeld => ?_)
          · (refine hS.out _ ?_; (repeat (first | exact Ext.refl _ | with_reducible assumption | refine Ext.drew ?_ | refine Ext.alloc ?_ _ | refine Ext.trans ?_ (by assumption))))
          refine wpAnyH_take (i := 0) (oi := ⟨some 138, _, _, _, _, _⟩) (v := ?_) rfl (by kernel_rfl) (by kernel_rfl) (by kernel_rfl) (fun _ _ _ h => h) (Or.inl ⟨by kernel_rfl, ?_⟩) hHeld ?_
          rotate_left
          · (intro w hSw; (try dsimp only at hSw); go_simp; try with_reducible rfl)
          try simp only [Act.put, List.setIfInBounds_toArray, List.set_cons_zero, List.set_cons_succ]
          refine wpAnyH_take (i := 1) (oi := ⟨some 139, _, _, _, _, _⟩) (v := ?_) rfl (by kernel_rfl) (by kernel_rfl) (by kernel_rfl) (fun _ _ _ h => h) (Or.inl ⟨by kernel_rfl, ?_⟩) hHeld ?_
          rotate_left
          · (intro w hSw; (try dsimp only at hSw); go_simp; try with_reducible rfl)
          try simp only [Act.put, List.setIfInBounds_toArray, List.set_cons_zero, List.set_cons_succ]
          refine wpAnyH_take (i := 2) (oi := ⟨some 140, _, _, _, _, _⟩) (v := ?_) rfl (by kernel_rfl) (by kernel_rfl) (by kernel_rfl) (fun _ _ _ h => h) (Or.inl ⟨by kernel_rfl, ?_⟩) hHeld ?_
          rotate_left
          · (intro w hSw; (try dsimp only at hSw); go_simp; try with_reducible rfl)
          try simp only [Act.put, List.setIfInBounds_toArray, List.set_cons_zero, List.set_cons_succ]
          refine wpAnyH_take (i := 3) (oi := ⟨some 141, _, _, _, _, _⟩) (v := ?_) rfl (by kernel_rfl) (by kernel_rfl) (by kernel_rfl) (fun _ _ _ h => h) (Or.inl ⟨by kernel_rfl, ?_⟩) hHeld ?_
          rotate_left
          · (intro w hSw; (try dsimp only at hSw); go_simp; try with_reducible rfl)
          try simp only [Act.put, List.setIfInBounds_toArray, List.set_cons_zero, List.set_cons_succ]
          refine wpAnyH_take (i := 4) (oi := ⟨some 142, _, _, _, _, _⟩) (v := ?_) rfl (by kernel_rfl) (by kernel_rfl) (by kernel_rfl) (fun _ _ _ h => h) (Or.inl ⟨by kernel_rfl, ?_⟩) hHeld ?_
          rotate_left
          · (intro w hSw; (try dsimp only at hSw); go_simp; try with_reducible rfl)
          try simp only [Act.put, List.setIfInBounds_toArray, List.set_cons_zero, List.set_cons_succ]
          refine wpAnyH_take (i := 5) (oi := ⟨some 143, _, _, _, _, _⟩) (v := undef) rfl (by kernel_rfl) (by kernel_rfl) (by kernel_rfl) (fun _ _ _ h => h) (Or.inr ⟨by kernel_rfl, rfl⟩) (by assumption) ?_
          try simp only [Act.put, List.setIfInBounds_toArray, List.set_cons_zero, List.set_cons_succ]
          refine wpAnyH_take (i := 6) (oi := ⟨some 144, _, _, _, _, _⟩) (v := undef) rfl (by kernel_rfl) (by kernel_rfl) (by kernel_rfl) (fun _ _ _ h => h) (Or.inr ⟨by kernel_rfl, rfl⟩) (by assumption) ?_
          try simp only [Act.put, List.setIfInBounds_toArray, List.set_cons_zero, List.set_cons_succ]
          refine wpAnyH_take (i := 7) (oi := ⟨some 145, _, _, _, _, _⟩) (v := undef) rfl (by kernel_rfl) (by kernel_rfl) (by kernel_rfl) (fun _ _ _ h => h) (Or.inr ⟨by kernel_rfl, rfl⟩) (by assumption) ?_
          try simp only [Act.put, List.setIfInBounds_toArray, List.set_cons_zero, List.set_cons_succ]
          refine wpAnyH_take (i := 8) (oi := ⟨some 146, _, _, _, _, _⟩) (v := undef) rfl (by kernel_rfl) (by kernel_rfl) (by kernel_rfl) (fun _ _ _ h => h) (Or.inr ⟨by kernel_rfl, rfl⟩) (by assumption) ?_
          try simp only [Act.put, List.setIfInBounds_toArray, List.set_cons_zero, List.set_cons_succ]
          refine wpAnyH_take (i := 9) (oi := ⟨some 147, _, _, _, _, _⟩) (v := ?_) rfl (by kernel_rfl) (by kernel_rfl) (by kernel_rfl) (fun _ _ _ h => h) (Or.inl ⟨by kernel_rfl, ?_⟩) hHeld ?_
          rotate_left
          · (intro w hSw; (try dsimp only at hSw); go_simp; try with_reducible rfl)
          try simp only [Act.put, List.setIfInBounds_toArray, List.set_cons_zero, List.set_cons_succ]
          refine wpAnyH_take (i := 10) (oi := ⟨some 148, _, _, _, _, _⟩) (v := ?_) rfl (by kernel_rfl) (by kernel_rfl) (by kernel_rfl) (fun _ _ _ h => h) (Or.inl ⟨by kernel_rfl, ?_⟩) hHeld ?_
          rotate_left
          · (intro w hSw; (try dsimp only at hSw); go_simp; try with_reducible rfl)
          try simp only [Act.put, List.setIfInBounds_toArray, List.set_cons_zero, List.set_cons_succ]
          refine wpAnyH_take (i := 11) (oi := ⟨some 149, _, _, _, _, _⟩) (v := ?_) rfl (by kernel_rfl) (by kernel_rfl) (by kernel_rfl) (fun _ _ _ h => h) (Or.inl ⟨by kernel_rfl, ?_⟩) hHeld ?_
          rotate_left
          · (intro w hSw; (try dsimp only at hSw); go_simp; try with_reducible rfl)
          try simp only [Act.put, List.setIfInBounds_toArray, List.set_cons_zero, List.set_cons_succ]
          refine wpAnyH_take (i := 12) (oi := ⟨some 150, _, _, _, _, _⟩) (v := ?_) rfl (by kernel_rfl) (by kernel_rfl) (by kernel_rfl) (fun _ _ _ h => h) (Or.inl ⟨by kernel_rfl, ?_⟩) hHeld ?_
          rotate_left
          · (intro w hSw; (try dsimp only at hSw); go_simp; try with_reducible rfl)
          try simp only [Act.put, List.setIfInBounds_toArray, List.set_cons_zero, List.set_cons_succ]
          refine wpAnyH_take (i := 14) (oi := ⟨some 152, _, _, _, _, _⟩) (v := ?_) rfl (by kernel_rfl) (by kernel_rfl) (by kernel_rfl) (fun _ _ _ h => h) (Or.inl ⟨by kernel_rfl, ?_⟩) hHeld ?_
          rotate_left
          · (intro w hSw; (try dsimp only at hSw); go_simp; try with_reducible rfl)
          try simp only [Act.put, List.setIfInBounds_toArray, List.set_cons_zero, List.set_cons_succ]
          refine wpAnyH_take (i := 15) (oi := ⟨some 153, _, _, _, _, _⟩) (v := ?_) rfl (by kernel_rfl) (by kernel_rfl) (by kernel_rfl) (fun _ _ _ h => h) (Or.inl ⟨by kernel_rfl, ?_⟩) hHeld ?_
          rotate_left
          · (intro w hSw; (try dsimp only at hSw); go_simp; try with_reducible rfl)
          try simp only [Act.put, List.setIfInBounds_toArray, List.set_cons_zero, List.set_cons_succ]
          refine wpAnyH_take (i := 16) (oi := ⟨some 154, _, _, _, _, _⟩) (v := ?_) rfl (by kernel_rfl) (by kernel_rfl) (by kernel_rfl) (fun _ _ _ h => h) (Or.inl ⟨by kernel_rfl, ?_⟩) hHeld ?_
          rotate_left
          · (intro w hSw; (try dsimp only at hSw); go_simp; try with_reducible rfl)
          try simp only [Act.put, List.setIfInBounds_toArray, List.set_cons_zero, List.set_cons_succ]
          refine wpAnyH_take (i := 17) (oi := ⟨some 155, _, _, _, _, _⟩) (v := ?_) rfl (by kernel_rfl) (by kernel_rfl) (by kernel_rfl) (fun _ _ _ h => h) (Or.inl ⟨by kernel_rfl, ?_⟩) hHeld ?_
          rotate_left
          · (intro w hSw; (try dsimp only at hSw); go_simp; try with_reducible rfl)
          try simp only [Act.put, List.setIfInBounds_toArray, List.set_cons_zero, List.set_cons_succ]
          refine wpAnyH_ready (rs := [13]) (by kernel_rfl) (by simp) ?_
          refine AllReadyH.cons rfl (fun K hK => ?_) ?_
          · go_simp
            (go_at_call 30; refine (hBy.out _ (by (repeat (first | exact Ext.refl _ | with_reducible assumption | refine Ext.drew ?_ | refine Ext.alloc ?_ _ | refine Ext.trans ?_ (by assumption))))).mono ?_; rintro e w10 ⟨v10, rfl, b10, e10⟩)
            go_wp2_with fail
            clear hHeld
            refine hK.out _ _ ?_ (fun hHeld => ?_)
            · (refine hS.out _ ?_; (repeat (first | exact Ext.refl _ | with_reducible assumption | refine Ext.drew ?_ | refine Ext.alloc ?_ _ | refine Ext.trans ?_ (by assumption))))
            clear hK K
            try simp only [Act.put, List.setIfInBounds_toArray, List.set_cons_zero, List.set_cons_succ]
            refine wpAnyH_ready (rs := [18]) (by kernel_rfl) (by simp) ?_
            refine AllReadyH.cons rfl (fun K hK => ?_) ?_
            · go_simp
              (go_at_call 20; refine (same9_any _ _ _ _ w10 b10 (hkb.out _ (by (repeat (first | exact Ext.refl _ | with_reducible assumption | refine Ext.drew ?_ | refine Ext.alloc ?_ _ | refine Ext.trans ?_ (by assumption)))))).mono ?_; rintro e w' ⟨rfl, rfl⟩)
              go_wp2_with fail
              clear hHeld
              refine hK.out _ _ ?_ (fun hHeld => ?_)
              · (refine hS.out _ ?_; (repeat (first | exact Ext.refl _ | with_reducible assumption | refine Ext.drew ?_ | refine Ext.alloc ?_ _ | refine Ext.trans ?_ (by assumption))))
              clear hK K
              try simp only [Act.put, List.setIfInBounds_toArray, List.set_cons_zero, List.set_cons_succ]
              refine wpAnyH_take (i := 19) (oi := ⟨some 157, _, _, _, _, _⟩) (v := ?_) rfl (by kernel_rfl) (by kernel_rfl) (by kernel_rfl) (fun _ _ _ h => h) (Or.inl ⟨by kernel_rfl, ?_⟩) hHeld ?_
              rotate_left
              · (intro w hSw; (try dsimp only at hSw); go_simp; try with_reducible rfl)
              try simp only [Act.put, List.setIfInBounds_toArray, List.set_cons_zero, List.set_cons_succ]
              refine wpAnyH_take (i := 20) (oi := ⟨some 10, _, _, _, _, _⟩) (v := ?_) rfl (by kernel_rfl) (by kernel_rfl) (by kernel_rfl) (fun _ _ _ h => h) (Or.inl ⟨by kernel_rfl, ?_⟩) hHeld ?_
              rotate_left
              · (intro w hSw; (try dsimp only at hSw); go_simp; try with_reducible rfl)
              try simp only [Act.put, List.setIfInBounds_toArray, List.set_cons_zero, List.set_cons_succ]
              refine wpAnyH_done (by kernel_rfl) ?_ _
              go_wp2
              go_ret
              exact ⟨rfl, e9h.out.trans (by (repeat (first | exact Ext.refl _ | with_reducible assumption | refine Ext.drew ?_ | refine Ext.alloc ?_ _ | refine Ext.trans ?_ (by assumption))))⟩
            exact AllReadyH.nil
          exact AllReadyH.nil
          -- END NOLOG
end Go.Proofs.YtmpjcnopakfdmaaDoor
