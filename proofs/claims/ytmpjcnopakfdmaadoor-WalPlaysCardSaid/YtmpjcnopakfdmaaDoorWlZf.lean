/- WalPlays: the walk. -/
import Derived.Test.YtmpjcnopakfdmaaDoorWlZe
import Derived.Test.YtmpjcnopakfdmaaDoorWlU
import Derived.Deep.RegionHeld3
import Derived.Deep.DeepCutAuto
import Derived.Deep.CutBlock
namespace Go.Proofs.YtmpjcnopakfdmaaDoor
set_option linter.unusedVariables false
set_option linter.unusedSimpArgs false
open Go.RowKit Dk Wl Fr

theorem boxW_chg {w w' : World} {F : Nat → Prop} {B : Nat} {C : Array Value} {t : TypeId} (c : Chg F w w') (h : w.heap[B]? = some (.cells C t (0, 0))) (hB : ¬ F B) : w'.heap[B]? = some (.cells C t (0, 0)) := by
  rw [c.block B (Array.getElem?_eq_some_iff.1 h).1 hB]; exact h
theorem PrL.not_halves {w0 w : World} {F1 F2 : Nat → Prop} {q1 p1 q2 p2 : Nat} {g g' : Lg} {rs : List (List UInt8)} (h : PrL w0 w F1 F2 q1 p1 q2 p2 g g' rs) (hw : Halves w0) : ¬ F1 0 := fun h1 => by
  have := World.block_lt_of_cell? w0 _ (hw 0)
  have h2 := (h.a1 _ h1).1
  simp only at this
  omega
theorem PrL.bytes {w0 w : World} {F1 F2 : Nat → Prop} {q1 p1 q2 p2 : Nat} {g g' : Lg} {rs : List (List UInt8)} (h : PrL w0 w F1 F2 q1 p1 q2 p2 g g' rs) {v : Value} {b : List UInt8} (hb : Bytes w0 v b) : (∀ w', Chg F1 w w' → Bytes w' v b) ∧ ∀ w', Chg F2 w w' → Bytes w' v b :=
  ⟨fun w' c => hb.ext (h.e.chg c fun k hk => (h.a1 k hk).1), fun w' c => hb.ext (h.e.chg c fun k hk => (h.b1 k hk).1)⟩
theorem remB27 (b : UInt8) : Int.tmod (b.toNat : Int) 27 = ((b.toNat % 27 : Nat) : Int) ∧ IntKind.u8.wrap ((b.toNat % 27 : Nat) : Int) = ((b.toNat % 27 : Nat) : Int) ∧ IntKind.i64.wrap ((b.toNat % 27 : Nat) : Int) = ((b.toNat % 27 : Nat) : Int) ∧ IntKind.i64.wrap (4 + ((b.toNat % 27 : Nat) : Int)) = 4 + ((b.toNat % 27 : Nat) : Int) := by
  have := b.toNat_lt
  refine ⟨by rw [Int.tmod_eq_emod_of_nonneg (by omega)]; omega, by rw [IntKind.wrap_u8]; omega, by rw [IntKind.wrap_i64]; omega, by rw [IntKind.wrap_i64]; omega⟩
theorem okW_parts {x : Wop} (h : okW x = true) : x.ls.length ≤ 20 ∧ x.ps.length ≤ 50 := by
  unfold okW at h
  simp only [Bool.and_eq_true, decide_eq_true_eq] at h
  exact ⟨(fewF_ok h.1).1, h.2.2⟩
attribute [local irreducible] opL wrB wrE sync syncE drop crash faults stop doL doR mk openE openH openU
set_option maxRecDepth 100000 in
set_option maxHeartbeats 8000000 in
theorem walPlays_any (blocks : UInt8) (v1 : Value) (l : List Wop) (w : World) (hw : Halves w) (hl : Wops w v1 l) :
    Calls Tryd.prog 11 #[.int .u8 (blocks.toNat : Int), v1] w (LawEnd w) := by
  have hwh := Lib.hid hw
  have hlh := Lib.hid hl
  obtain ⟨a1, c1, rfl, hlm, hget⟩ := hl.get
  have hgh := Lib.hid hget
  obtain ⟨t1, t2, t3, t4⟩ := remB27 blocks
  have hm := Lib.hid (show blocks.toNat % 27 < 27 from Nat.mod_lt _ (by decide))
  generalize blocks.toNat % 27 = m at *
  have haw := awake10_any _ hw
  clear hw hl hget
  go_enter Tryd.func11, Tryd.ntmps11
  go_upto_region 3 with (first
    | (go_at_call 23; refine haw.mono ?_; rintro e w1 ⟨rfl, e1⟩)
    | (go_at_call 31; refine (fewW_any _ _ _ (hlh.out.ext e1)).mono ?_; rintro e w1' ⟨rfl, rfl⟩))
  cases hf : fewW l
  · go_wp2
    go_ret
    exact ⟨rfl, e1⟩
  have hfl := Lib.hid (show l.length ≤ 25 ∧ ∀ x ∈ l, okW x = true from by
    unfold fewW at hf
    simp only [Bool.and_eq_true, decide_eq_true_eq, List.all_eq_true] at hf
    exact ⟨hf.2, hf.1⟩)
  clear hf haw
  have e1h := Lib.hid e1
  have hN := new_any (4 + (m : Int)) w1
  have hN2 := fun W => rnew_any (4 + (m : Int)) W
  have hcl : clamp (4 + (m : Int)) = 4 + m := by have := hm.out; unfold clamp; omega
  rw [hcl] at hN
  rw [hcl] at hN2
  clear e1
  go_upto_region 8 with (first
    | (go_at_call 40; refine hN.mono ?_; rintro e w2 ⟨v2, rfl, p1, rfl, h2, e2⟩)
    | (go_at_call 43; refine (hN2 _).mono ?_; rintro e w3 ⟨v3, rfl, p2, rfl, h3, e3⟩))
  have hop := Lib.hid (new_open (n := 4 + m) (by omega) (by have := hm.out; omega))
  have hok0 := Lib.hid (mk_ok (show 4 + m ≤ 512 by have := hm.out; omega))
  have hst0 := Lib.hid (show (mk (4 + m)).st = [] from by unfold mk; rfl)
  generalize mk (4 + m) = d0 at *
  have e3h := Lib.hid ((e1h.out.trans e2).trans e3)
  have hD1 := Lib.hid (h2.ext e3)
  have hD2 := Lib.hid h3
  have sz2 := Lib.hid (show w.heap.size ≤ w1.heap.size ∧ w1.heap.size ≤ w2.heap.size ∧ w2.heap.size ≤ w3.heap.size from ⟨e1h.out.size, e2.size, e3.size⟩)
  have hop1 := lopen_m (F := fun k => w1.heap.size ≤ k ∧ k < w2.heap.size) hD1.out (fun k hk => hk) (hwh.out.ext e3h.out)
  rw [hop.out.1] at hop1
  clear hN hN2 h2 h3 e2 e3 hcl
  go_upto_region 11 with (go_at_call 27; refine hop1.mono ?_; rintro e w4 ⟨r, rfl, e4, ⟨h0, -⟩ | ⟨-, q1, rfl, hq1, l4⟩⟩; exact absurd rfl h0)
  have hop2 := ropen_any ((RV.of hD2.out).ext e4) hok0.out
  rw [hop.out.1] at hop2
  have e4h := Lib.hid e4
  clear hop1 e4
  go_upto_region 12 with (go_at_call 28; refine hop2.mono ?_; rintro e w5 ⟨r, rfl, e5, ⟨h0, -⟩ | ⟨-, q2, rfl, hq2, vl, rl, ol⟩⟩; exact absurd rfl h0)
  have hP : PrL w w5 (fun k => w1.heap.size ≤ k ∧ (k < w2.heap.size ∨ w3.heap.size ≤ k) ∧ k < w4.heap.size) (fun k => (w2.heap.size ≤ k ∧ k < w3.heap.size) ∨ (w4.heap.size ≤ k ∧ k < w5.heap.size)) q1 p1 q2 p2 ⟨d0, openH d0, openU d0⟩ ⟨d0, openH d0, openU d0⟩ (scan (openU d0)) := by
    obtain ⟨s1, s2, s3⟩ := sz2.out
    have s4 := e4h.out.size
    have s5 := e5.size
    have hf := Fit.opened hok0.out hop.out.1
    have l4b := l4.bound
    have b4 := (l4b.mono (F' := fun k => w1.heap.size ≤ k ∧ (k < w2.heap.size ∨ w3.heap.size ≤ k) ∧ k < w4.heap.size) fun k hk => hk.1.elim (fun h => ⟨h.1, .inl h.2, hk.2⟩) fun h => ⟨by omega, .inr h, hk.2⟩).ext e5
    have q2lt := rl.lt
    refine ⟨(e3h.out.trans e4h.out).trans e5, b4, ?_, fun k hk => ⟨by omega, by omega⟩, fun k hk => ⟨by omega, by omega⟩, fun k hk h => by omega⟩
    refine ⟨fun k => w2.heap.size ≤ k ∧ k < w3.heap.size, vl, (hD2.out.ext e4h.out).ext e5, fun k hk => .inl hk, fun k hk => by omega, .inr ⟨hq2, q2lt⟩, fun h => by omega, rl, fun W c => ?_⟩
    have hL : LLP w5 vl (scan (openU d0)) fun k => ¬ (w2.heap.size ≤ k ∧ k < w3.heap.size) ∧ k ≠ q2 ∧ ¬ (w1.heap.size ≤ k ∧ (k < w2.heap.size ∨ w3.heap.size ≤ k) ∧ k < w4.heap.size) ∧ k < w5.heap.size := ol.llp.mono fun k h1 h2 => ⟨fun h => by omega, by omega, fun h => by omega, h1⟩
    refine hL.chg c (fun k hk h => ?_) fun k hk h => h.elim hk.1 fun h => h.elim hk.2.1 hk.2.2.1
    have hb := ol.own_lt k hk
    rcases h with h | h | h <;> omega
  have hF := Lib.hid (Fit.opened hok0.out hop.out.1)
  have hPh := Lib.hid hP
  have hs0 := Lib.hid (show (⟨d0, openH d0, openU d0⟩ : Lg).d.st.length ≤ 300 * 0 from by show d0.st.length ≤ _; rw [hst0.out]; exact Nat.zero_le _)
  generalize (⟨d0, openH d0, openU d0⟩ : Lg) = g0 at *
  generalize scan (openU d0) = rs0 at *
  clear hop2 l4 rl ol hq1 hq2 e5 hP hD1 hD2 hop hok0 hst0 sz2 e3h e4h
  go_wp2_with fail
  go_loopw [14, 10, 12] (fun i a b wr => ∃ k : Nat, k ≤ l.length ∧ i = .int .i64 (k : Int) ∧ ∃ F1 F2 q1 q2 g rs, a = .pointer (some ⟨q1, 0, none⟩) ∧ b = .pointer (some ⟨q2, 0, none⟩) ∧ RowKit.Hid (PrL w wr F1 F2 q1 p1 q2 p2 g g rs) ∧ RowKit.Hid (Fit g rs) ∧ RowKit.Hid (g.d.st.length ≤ 300 * k)) (fun i _ _ _ => l.length - (intOf i).toNat)
  case atStart => exact ⟨0, Nat.zero_le _, rfl, _, _, q1, q2, g0, rs0, rfl, rfl, hPh, hF, hs0⟩
  case round =>
    clear hPh hF hs0
    obtain ⟨k, hk, rfl, F1, F2, q1, q2, g, rs, rfl, rfl, hd, hfit, hst⟩ := hrel
    by_cases hlt : k < l.length
    · obtain ⟨g_, o, rfl, vb, vl, vp, hr, hb, hv, hp, r1, r2⟩ := hgh.out k hlt
      obtain ⟨ab, cb, rfl, -⟩ := id hb
      obtain ⟨al, cl, rfl, -⟩ := hv.get
      obtain ⟨ap, cp, rfl, -⟩ := id hp
      have hki : (k : Int) < (l.length : Int) := by omega
      have hk25 : k ≤ 25 := by have := hfl.out.1; omega
      obtain ⟨hx20, hx50⟩ := okW_parts (hfl.out.2 _ (List.getElem_mem hlt))
      have hrw : wr.rangeAt g_ (o + k * 5) [.int .i64 l[k].what, .int .i64 l[k].n, .slice ab l[k].bs.length cb, .slice al l[k].ls.length cl, .slice ap l[k].ps.length cp] := fun j u hu => hd.out.e.cell (hr j u hu)
      generalize l[k] = x at *
      clear hr
      have eB := (Ext.refl wr).alloc (.cells #[.int .i64 x.what, .int .i64 x.n, .slice ab x.bs.length cb, .slice al x.ls.length cl, .slice ap x.ps.length cp] 61)
      have hbox := heap_alloc_new wr (.cells #[.int .i64 x.what, .int .i64 x.n, .slice ab x.bs.length cb, .slice al x.ls.length cl, .slice ap x.ps.length cp] 61)
      have hB1 : ¬ F1 wr.heap.size := fun h => by have := (hd.out.a1 _ h).2; omega
      have hB2 := Lib.hid (show ¬ F2 wr.heap.size from fun h => by have := (hd.out.b1 _ h).2; omega)
      have hdB := Lib.hid (hd.out.ext eB)
      have hbx : (wr.alloc (.cells #[.int .i64 x.what, .int .i64 x.n, .slice ab x.bs.length cb, .slice al x.ls.length cl, .slice ap x.ps.length cp] 61)).rangeAt wr.heap.size 0 [.int .i64 x.what, .int .i64 x.n, .slice ab x.bs.length cb, .slice al x.ls.length cl, .slice ap x.ps.length cp] := fun j u hu => by
        rw [cell_of_row _ _ _ _ _ _ hbox, Nat.zero_add, ← hu]; simp
      have hDo := ldo2_any x hdB.out.a hfit.out.sane (by have := hst.out; omega) (hwh.out.ext hdB.out.e) (hdB.out.not_halves hwh.out) (hdB.out.bytes hb).1 (hv.ext hdB.out.e) (by omega) (hp.ext hdB.out.e) (by omega) r1 r2
      have hfx := Lib.hid (do_fit x hfit.out hdB.out.a.ok)
      have hcs := Lib.hid (doL_cases x g rs)
      have hbsz : wr.heap.size < (wr.alloc (.cells #[.int .i64 x.what, .int .i64 x.n, .slice ab x.bs.length cb, .slice al x.ls.length cl, .slice ap x.ps.length cp] 61)).heap.size := (Array.getElem?_eq_some_iff.1 hbox).1
      generalize doR x (doL x g).1 rs = rs2 at *
      generalize doL x g = R at *
      obtain ⟨E, g2⟩ := R
      dsimp only at hDo hfx
      clear hd eB
      go_upto_block 2 with (first
        | (refine wpList_load_mid rfl 61 _ rfl g_ (o + k * 5) rfl [.int .i64 x.what, .int .i64 x.n, .slice ab x.bs.length cb, .slice al x.ls.length cl, .slice ap x.ps.length cp] _ hrw Tryd.underlying61 rfl info_wop ?_)
        | (refine wpList_store_new wr rfl 61 _ _ rfl #[.int .i64 x.what, .int .i64 x.n, .slice ab x.bs.length cb, .slice al x.ls.length cl, .slice ap x.ps.length cp] _ rfl rfl rfl 5 info_wop rfl rfl rfl ?_)
        | (refine wpList_load_mid rfl 61 _ rfl wr.heap.size 0 rfl [.int .i64 x.what, .int .i64 x.n, .slice ab x.bs.length cb, .slice al x.ls.length cl, .slice ap x.ps.length cp] _ hbx Tryd.underlying61 rfl info_wop ?_)
        | (go_at_call 35; refine hDo.mono ?_; rintro e w3 ⟨rfl, c3, h3⟩; have hbox3 := boxW_chg c3 hbox hB1; have i0 := cell_of_row _ wr.heap.size 0 _ _ _ hbox3; simp only [List.getElem?_toArray, List.getElem?_cons_zero] at i0))
      have hP3 := Lib.hid (hdB.out.one c3 h3)
      have i1 := cell_of_row _ wr.heap.size 1 _ _ _ hbox3
      have i2 := cell_of_row _ wr.heap.size 2 _ _ _ hbox3
      have i3 := cell_of_row _ wr.heap.size 3 _ _ _ hbox3
      have i4 := cell_of_row _ wr.heap.size 4 _ _ _ hbox3
      simp only [List.getElem?_toArray, List.getElem?_cons_zero, List.getElem?_cons_succ] at i1 i2 i3 i4
      have hbox3h := Lib.hid hbox3
      have hbh := Lib.hid hb
      have hvh := Lib.hid hv
      have hph := Lib.hid hp
      clear c3 h3 hbox hbx hrw hdB hDo hbox3 hb hv hp hB1 hbsz
      generalize wr.heap.size = B at *
      obtain ⟨F1', hF1'⟩ : ∃ P : Nat → Prop, P = fun k => grow F1 (wr.alloc (.cells #[.int .i64 x.what, .int .i64 x.n, .slice ab x.bs.length cb, .slice al x.ls.length cl, .slice ap x.ps.length cp] 61)) k ∧ k < w3.heap.size := ⟨_, rfl⟩
      rw [← hF1'] at hP3
      clear hF1'
      go_cut [17] (fun b wd => b = .int .i64 E ∧ RLogM wd F1' (grow F2 w3) q2 p2 g2 rs2 ∧ Chg F2 w3 wd)
      case first =>
        have m3 := hP3.out.b
        have hA := fun k hk => (hP3.out.a1 k hk).2
        have hok := m3.ok
        obtain ⟨G, hD, hGF, hGs, hm3⟩ := id m3.disk
        obtain ⟨vpl, kp, fz⟩ := hD.plan2
        have hm3h := Lib.hid hm3
        have hst3 := hst.out
        rcases hcs.out with ⟨q0, e1, e2⟩ | ⟨q0, e1, e2⟩ | ⟨q0, e1, e2⟩ | ⟨q0, e1, e2⟩ | ⟨q0, e1, e2⟩ | ⟨u1, u2, u4, u5, u6, e1, e2⟩
        · have hAp := rlogAppend_any m3 hA hfit.out.sane hok (by omega) hfit.out.u hfit.out.er (hbh.out.ext hP3.out.e) (by have := hfit.out.few; omega)
          rw [← e2, ← e1] at hAp
          dsimp only at hAp
          have u1 : (x.what == 1) = true := by rw [q0]; rfl
          clear e1 e2 q0 m3 hA hok hD hGF hGs hm3 kp fz hm3h i1 i3 i4 hcs hst3
          go_wp2_with (go_at_call 44; refine hAp.mono ?_; rintro e w4 ⟨rfl, c4, m4⟩)
          go_meet
          case rel => exact ⟨rfl, m4, c4⟩
        · have hRp := rlogReplace_any m3 hA hfit.out.sane hok (by omega) ((hvh.out.llp.ext hP3.out.e).mono fun k _ hk => ⟨fun h => by have := (hP3.out.b1 k h).1; omega, fun h => by have := (hP3.out.a1 k h).1; omega⟩) (by omega)
          rw [← e2, ← e1] at hRp
          dsimp only at hRp
          have u1 : (x.what == 1) = false := by rw [q0]; rfl
          have u2 : (x.what == 2) = true := by rw [q0]; rfl
          clear e1 e2 q0 m3 hA hok hD hGF hGs hm3 kp fz hm3h i1 i2 i4 hcs hst3
          go_wp2_with (go_at_call 45; refine hRp.mono ?_; rintro e w4 ⟨rfl, c4, m4⟩)
          go_meet
          case rel => exact ⟨rfl, m4, c4⟩
        · have u1 : (x.what == 1) = false := by rw [q0]; rfl
          have u2 : (x.what == 2) = false := by rw [q0]; rfl
          have u4 : (x.what == 4) = true := by rw [q0]; rfl
          simp only [Prod.mk.injEq] at e1
          obtain ⟨rfl, rfl⟩ := e1
          have e2h := Lib.hid e2
          have hDh := Lib.hid hD
          have hGFh := Lib.hid hGF
          have eA := (Ext.refl w3).alloc (.cells #[] 4)
          have ho : Own bv 4 (w3.alloc (.cells #[] 4)) w3.heap.size (.slice (some ⟨w3.heap.size, 0, none⟩) 0 0) [] := Own.empty rfl (Nat.le_refl _)
          have hzz := eA.size
          have i4A := eA.cell i4
          have hpp := hph.out.ext hP3.out.e
          clear e2 q0 m3 hA hok hD hGF hGs hm3 i1 i2 i3 hcs hst3
          go_wp2_with (at_builtin; refine wpList_appendS (z := .bool false) (bytes := 1) Tryd.underlying55 (by kernel_rfl) rfl bv_one rfl _ _ rfl w3.heap.size _ [] rfl ho _ x.ps rfl (hpp.ext eA) (by simp; omega) (by simp; omega) hzz ?_; intro v4 w4 g1 g2'; have e4 := Ext.owns eA ho g2'; obtain ⟨a4, c4, rfl, -⟩ := g1.shape; have kp' := e4.cell kp; have fz' : w4.frozen? ⟨p2, 2, none⟩ = false := (Below.frozen (p := ⟨p2, 2, none⟩) e4 (World.block_lt_of_cell? w3 _ kp)).trans fz)
          go_meet
          case rel =>
            obtain ⟨h4, h5⟩ := rfaults_end hDh.out e4 g1
            exact ⟨rfl, by rw [e2h.out]; exact hm3h.out _ _ h4 h5, h4.mono hGFh.out⟩
        · have u1 : (x.what == 1) = false := by rw [q0]; rfl
          have u2 : (x.what == 2) = false := by rw [q0]; rfl
          have u4 : (x.what == 4) = false := by rw [q0]; rfl
          have u5 : (x.what == 5) = true := by rw [q0]; rfl
          simp only [Prod.mk.injEq] at e1
          obtain ⟨rfl, rfl⟩ := e1
          have e2h := Lib.hid e2
          have hGFh := Lib.hid hGF
          have hS := rstop_any hD x.n r1 r2
          clear e2 q0 m3 hA hok hD hGF hGs hm3 i2 i3 i4 hcs hst3 kp fz
          go_wp2_with (go_at_call 46; refine hS.mono ?_; rintro e w4 ⟨rfl, c4, h4⟩)
          go_meet
          case rel => exact ⟨rfl, by rw [e2h.out]; exact hm3h.out _ _ c4 (h4.mono fun _ => Or.inl), c4.mono hGFh.out⟩
        · have u1 : (x.what == 1) = false := by rw [q0]; rfl
          have u2 : (x.what == 2) = false := by rw [q0]; rfl
          have u4 : (x.what == 4) = false := by rw [q0]; rfl
          have u5 : (x.what == 5) = false := by rw [q0]; rfl
          have u6 : (x.what == 6) = true := by rw [q0]; rfl
          simp only [Prod.mk.injEq] at e1
          obtain ⟨rfl, rfl⟩ := e1
          have e2h := Lib.hid e2
          have hGFh := Lib.hid hGF
          have hS := rcrash_any hD (.slice ab x.bs.length cb) x.bs (fun w' c => (hP3.out.bytes hbh.out).2 w' (c.mono hGF))
          clear e2 q0 m3 hA hok hD hGF hGs hm3 i1 i3 i4 hcs hst3 kp fz
          go_wp2_with (go_at_call 47; refine hS.mono ?_; rintro e w4 ⟨rfl, c4, h4⟩)
          go_meet
          case rel => exact ⟨rfl, by rw [e2h.out]; exact hm3h.out _ _ c4 (h4.mono fun _ => Or.inl), c4.mono hGFh.out⟩
        · simp only [Prod.mk.injEq] at e1
          obtain ⟨rfl, rfl⟩ := e1
          have e2h := Lib.hid e2
          have hmm := Lib.hid (hm3 w3 g2.d (Chg.refl _ _) (hD.mono fun _ => Or.inl))
          clear e2 m3 hA hok hD hGF hGs hm3 i1 i2 i3 i4 hcs hst3 kp fz hm3h
          go_wp2
          go_meet
          case rel => exact ⟨rfl, by rw [e2h.out]; exact hmm.out, Chg.refl _ _⟩
      case rest =>
        obtain ⟨rfl, m4, c4⟩ := hcut
        obtain ⟨w4, rfl⟩ : ∃ W, W = wc := ⟨_, rfl⟩
        have hP4 := Lib.hid (hP3.out.two c4 m4)
        have hbox4 := boxW_chg c4 hbox3h.out hB2.out
        have j0 := cell_of_row _ B 0 _ _ _ hbox4
        simp only [List.getElem?_toArray, List.getElem?_cons_zero, List.getElem?_cons_succ] at j0
        clear i0 i1 i2 i3 i4 hP3 hbox4 hbox3h m4 c4 hcs hB2 hbh hvh hph
        obtain ⟨F2', hF2'⟩ : ∃ P : Nat → Prop, P = fun k => grow F2 w3 k ∧ k < w4.heap.size := ⟨_, rfl⟩
        rw [← hF2'] at hP4
        clear hF2'
        go_upto_region 31 with fail
        go_cut [116] (fun c wd => (∃ b : Bool, c = .bool b) ∧ wd = w4)
        case first =>
          obtain ⟨G, hD, -⟩ := hP4.out.a.disk
          have hS := staged_any hD
          clear hD
          by_cases h3 : x.what = 3
          · have u3 : (x.what == 3) = true := by rw [h3]; rfl
            have u6 : (x.what == 6) = false := by rw [h3]; rfl
            clear h3
            by_cases h0 : g2.d.st.length = 0
            · have u0 : ((g2.d.st.length : Int) == 0) = true := by rw [h0]; rfl
              clear h0
              go_wp2_with (go_at_call 39; refine hS.mono ?_; rintro e w' ⟨rfl, rfl⟩)
              go_meet
              exact ⟨⟨_, rfl⟩, rfl⟩
            · have u0 : ((g2.d.st.length : Int) == 0) = false := by rw [beq_eq_false_iff_ne]; omega
              clear h0
              go_wp2_with (go_at_call 39; refine hS.mono ?_; rintro e w' ⟨rfl, rfl⟩)
              go_meet
              exact ⟨⟨_, rfl⟩, rfl⟩
          · have u3 : (x.what == 3) = false := by rw [beq_eq_false_iff_ne]; exact h3
            clear h3 hS
            go_wp2
            go_meet
            exact ⟨⟨_, rfl⟩, rfl⟩
        case rest =>
          obtain ⟨⟨b, rfl⟩, hwc⟩ := hcut
          obtain rfl : w4 = wc := hwc.symm
          clear j0
          go_upto_if 116 with fail
          go_cut [10, 12, 16, 17] (fun a b x y wd => ∃ e : Int, x = .int .i64 e ∧ y = .int .i64 e ∧ ((a = .pointer none ∧ b = .pointer none ∧ Ext w wd) ∨ ∃ F1 F2 q1 q2 g rs, a = .pointer (some ⟨q1, 0, none⟩) ∧ b = .pointer (some ⟨q2, 0, none⟩) ∧ RowKit.Hid (PrL w wd F1 F2 q1 p1 q2 p2 g g rs) ∧ RowKit.Hid (Fit g rs) ∧ RowKit.Hid (g.d.st.length ≤ 300 * (k + 1))))
          case first =>
            cases b
            · go_wp2
              go_meet
              exact ⟨E, rfl, rfl, .inr ⟨F1', F2', q1, q2, g2, rs2, rfl, rfl, hP4, Lib.hid hfx.out.1, Lib.hid (by have h1 := hfx.out.2; have h2 := hst.out; omega)⟩⟩
            · have hop1 := lopen_l hP4.out.a (hwh.out.ext hP4.out.e)
              obtain ⟨vl4, -, rv4, -⟩ := hP4.out.b.read
              have hok := hP4.out.b.ok
              have hop2 := Lib.hid (fun W (e : Ext w4 W) => ropen_any (rv4.ext e) hok)
              have hokh := Lib.hid hok
              have hs4 := Lib.hid (show g2.d.st.length ≤ 300 * (k + 1) from by have h1 := hfx.out.2; have h2 := hst.out; omega)
              clear rv4 hok
              by_cases hE : openE g2.d = 0
              · rw [hE] at hop1 hop2
                go_upto_region 33 with (go_at_call 27; refine hop1.mono ?_; rintro e w6 ⟨r, rfl, e6, ⟨h0, -⟩ | ⟨-, q1', rfl, hq1, l6⟩⟩; exact absurd rfl h0)
                have hop3 := hop2.out _ e6
                clear hop2 hop1
                go_wp2_with (go_at_call 28; refine hop3.mono ?_; rintro e w7 ⟨r, rfl, e7, ⟨h0, -⟩ | ⟨-, q2', rfl, hq2, vl7, rl7, ol7⟩⟩; exact absurd rfl h0)
                have hP6 := hP4.out.one (Chg.of_ext e6) l6
                have m7 := hP6.b.opened (fun k hk => (hP6.a1 k hk).2) e7 hq2 rl7 ol7
                have hP7 := Lib.hid (hP6.two (Chg.of_ext e7) m7)
                have hF7 := Lib.hid (Fit.opened hokh.out hE)
                clear hP6 m7 rl7 ol7 hop3 l6
                go_meet
                case rel => exact ⟨0, rfl, rfl, .inr ⟨_, _, q1', q2', ⟨g2.d, openH g2.d, openU g2.d⟩, scan (openU g2.d), rfl, rfl, hP7, hF7, hs4⟩⟩
              · have hEh := Lib.hid hE
                have hEe := hP4.out.e
                go_upto_region 33 with (go_at_call 27; refine hop1.mono ?_; rintro e w6 ⟨r, rfl, e6, ⟨-, rfl⟩ | ⟨h0, -⟩⟩; rotate_left; exact absurd h0 hEh.out)
                have hop3 := hop2.out _ e6
                clear hop2 hop1
                go_wp2_with (go_at_call 28; refine hop3.mono ?_; rintro e w7 ⟨r, rfl, e7, ⟨-, rfl⟩ | ⟨h0, -⟩⟩; rotate_left; exact absurd h0 hEh.out)
                clear hop3
                go_meet
                case rel => exact ⟨_, rfl, rfl, .inl ⟨rfl, rfl, (hEe.trans e6).trans e7⟩⟩
          case rest =>
            obtain ⟨e, rfl, rfl, hcase⟩ := hcut
            obtain ⟨w8, rfl⟩ : ∃ W, W = wc := ⟨_, rfl⟩
            have ee : (e != e) = false := bne_self_eq_false e
            clear hP4 hfx hfit hst
            rcases hcase with ⟨rfl, rfl, e8⟩ | ⟨F1, F2, q1, q2, g, rs, rfl, rfl, hP8, hF8, hs8⟩
            · go_wp2
              go_ret
              exact ⟨rfl, e8⟩
            · obtain ⟨vl8, rl8, rv8, rs8, ll8⟩ := hP8.out.b.read
              have hsm := lsame_any hP8.out.a hF8.out.sane (hwh.out.ext hP8.out.e) rl8 rv8 rs8 (by rw [hF8.out.recs]; exact ll8)
              clear rl8 rv8 rs8 ll8
              go_wp2_with (go_at_call 29; refine hsm.mono ?_; rintro e' w9 ⟨rfl, e9⟩)
              have hP9 := Lib.hid (hP8.out.ext e9)
              clear hsm
              go_roundw
              case rel => exact ⟨k + 1, by omega, by go_num, F1, F2, q1, q2, g, rs, rfl, rfl, hP9, hF8, hs8⟩
              case measure => simp [intOf]; omega
    · obtain rfl : k = l.length := by omega
      have hE := Lib.hid hd.out.e
      clear hd
      go_wp2
      go_ret
      exact ⟨rfl, hE.out⟩
end Go.Proofs.YtmpjcnopakfdmaaDoor
