/- The program's disk: Crash. -/
import Derived.Test.YtehgdoceaeammaaDiskD
namespace Go.Proofs.Ytehgdoceaeammaa
open Go.RowKit Dk

theorem drop_crash (cuts : List UInt8) (d : D) : drop ({ ({ d with plan := [], off := false, left := 0 } : D) with kept := lay d.kept d.st (cutAt cuts) d.st.length } : D) = crash cuts d := rfl
theorem rem33 (c : UInt8) : (wrap64 (c.toNat : Int)).tmod 33 = (c.toNat : Int) % 33 := by
  have := c.toNat_lt
  have e : wrap64 (c.toNat : Int) = (c.toNat : Int) := by rw [wrap64]; omega
  rw [e, Int.tmod_eq_emod_of_nonneg (by omega)]
theorem rem33_at (l : List UInt8) (k : Nat) (h : k < l.length) : (wrap64 ((l[k]'h).toNat : Int)).tmod 33 = ((l.getD k 0).toNat : Int) % 33 := by
  rw [rem33]; simp [List.getD, h]
set_option maxRecDepth 20000 in
set_option maxHeartbeats 1000000 in
theorem crash_any {w : World} {F : Nat → Prop} {p : Nat} {d : D} (h : Disk w F p d) (u : Value) (cuts : List UInt8) (hb : ∀ w', Chg F w w' → Bytes w' u cuts) :
    Calls Try.prog 28 #[.pointer (some ⟨p, 0, none⟩), u] w fun e w' => e = .returned (.tuple #[]) ∧ Chg F w w' ∧ Disk w' F p (crash cuts d) := by
  obtain ⟨gk, s, v, z, h1, h2, h3, r1, r2, r3, rok⟩ := h
  have hFp := h2
  have hbh := Lib.hid hb
  obtain ⟨au, capu, rfl, hbu⟩ := hb w (Chg.refl _ _)
  have hul := hbu.len
  have hlen := rok.len
  have hat := rok.at_
  have hmost := rok.most
  obtain ⟨a, cap, rfl, hsm, -⟩ := st_range h3.st rok.at_
  unfold maxLen at hsm
  obtain ⟨c0, c1, c2, c3, c4, ff⟩ := hdr_cells h1
  have cS := (((Chg.refl (fun k => k = p) w).set 3 (.bool false)).set 4 (.int .i64 (-1))).set 2 (.slice none 0 0)
  have hP := h3.own h1 cS
  have hL0 : Lay ((((w.setCell ⟨p, 3, none⟩ (.bool false)).setCell ⟨p, 4, none⟩ (.int .i64 (-1))).setCell ⟨p, 2, none⟩ (.slice none 0 0))) F p gk d.n (.slice a d.st.length cap) (.slice none 0 0) false (-1) { d with plan := [], off := false, left := 0 } (lay d.kept d.st (cutAt cuts) 0) :=
    ⟨hdr_set2 (hdr_set4 (hdr_set3 h1)), ⟨hP.kept, hP.fk, hP.st, .inl ⟨rfl, rfl⟩⟩⟩
  have hlenh := Lib.hid hlen
  have hath := Lib.hid hat
  have hL0h := Lib.hid hL0
  have hok := Lib.hid (rok.laid (cutAt cuts) (cutAt_le cuts) [] false 0)
  have hrok := Lib.hid rok
  have hcw := Lib.hid (cS.mono fun k hk => by rw [hk]; exact hFp : Chg F w _)
  clear hb hbu hlen hat h1 h3 r1 r2 r3 rok hP hL0 cS
  go_enter Try.func28, Try.ntmps28
  go_wp2
  go_loopw [21] (fun ix wr => ∃ k : Nat, k ≤ d.st.length ∧ ix = .int .i64 (k : Int) ∧ Lay wr F p gk d.n (.slice a d.st.length cap) (.slice none 0 0) false (-1) { d with plan := [], off := false, left := 0 } (lay d.kept d.st (cutAt cuts) k) ∧ Chg F w wr) (fun ix _ => d.st.length - (intOf ix).toNat)
  case atStart => exact ⟨0, Nat.zero_le _, rfl, hL0h.out, hcw.out⟩
  case round =>
    clear c0 c1 c2 c3 c4 ff
    obtain ⟨k, hk, rfl, hL, ek⟩ := hrel
    by_cases hlt : k < d.st.length
    · obtain ⟨x, hx⟩ : ∃ x, d.st[k]? = some x := ⟨_, List.getElem?_eq_getElem hlt⟩
      have hxd : d.st.getD k (0, []) = x := by rw [List.getD_eq_getElem?_getD, hx]; rfl
      obtain ⟨hx1, hx2⟩ := hath.out x (List.mem_of_getElem? hx)
      have hst : OwnF 65 33 wr F (.slice a d.st.length cap) d.st.length (d.st.flatMap wcells) := hL.parts.st
      obtain ⟨a', cap', e, hsm', hst'⟩ := st_range hst hath.out
      cases e
      obtain ⟨g, cg, rfl, hFg, hgg, hrx⟩ := hst' k x hx
      obtain ⟨cur, hkk, hcur⟩ := hL.parts.kept
      obtain ⟨c0, c1, c2, c3, c4, ff⟩ := hdr_cells hL.head
      have hKl := lay_length hlenh.out hath.out (cutAt cuts) (cutAt_le cuts) k hk
      have hwl : (wcells x).length = 33 := by simp [wcells, hx2]
      have hws := Lib.hid (wcA_size hx2)
      have eW := (Ext.refl wr).alloc (.cells (wcA x) 65)
      have hnew : (wr.alloc (.cells (wcA x) 65)).heap[wr.heap.size]? = some (.cells (wcA x) 65 (0, 0)) := heap_alloc_new _ _
      have d0 := eW.cell c0
      have d1 : (wr.alloc (.cells (wcA x) 65)).cell? ⟨wr.heap.size, 0, none⟩ = some (.int .i64 (x.1 : Int)) := by rw [cell_of_row _ _ _ _ _ _ hnew, wcA_at]
      have d2 := wcA_range hnew
      have hk2 := eW.heap hkk
      have hcs : cur.size = 32 * d.n := by rw [← Array.length_toList, hcur, List.length_map]; exact hKl
      have hxi : (x.1 : Int) < (d.n : Int) := by omega
      have hx0 : (0 : Int) ≤ (x.1 : Int) := by omega
      have hBx := Lib.hid ((Bytes.sub_row d2 hx2).ext ((Ext.refl _).drew))
      have hstep : RowKit.Hid (lay d.kept d.st (cutAt cuts) (k + 1) = over (lay d.kept d.st (cutAt cuts) k) (x.1 * 32) (x.2.take (cutAt cuts k))) := Lib.hid (by
        rw [lay, hxd, Nat.mul_comm])
      have hcutl := Lib.hid (cutAt_le cuts k)
      have hL2 := Lib.hid (hL.ext eW)
      have hFgk := hL.parts.fk
      have ekW : Chg F w (wr.alloc (.cells (wcA x) 65)) := ek.alloc _
      have hBc := hbh.out _ ekW
      have hk2h := Lib.hid hk2
      have hgl := (Array.getElem?_eq_some_iff.1 hkk).1
      have hne0 : ¬ p = gk := apart hL.head hkk (by decide)
      have hne1 : ¬ wr.heap.size = gk := by omega
      have hcurh := Lib.hid hcur
      have hcsh := Lib.hid hcs
      clear hst hst' hx hxd hgg hnew hkk hcur hL c1 c2 c3 c4 ff hKl hk2 hcs
      obtain ⟨au', capu', e, hBc⟩ := hBc
      cases e
      go_upto_if 29 with (first
        | (refine wpList_load_mid rfl 65 _ rfl g (k * 33) rfl (wcells x) _ hrx Try.underlying65 rfl (by rw [hwl]; exact info_write) ?_)
        | (refine wpList_store_new wr rfl 65 _ _ rfl (wcA x) _ rfl rfl rfl 33 info_write hws.out rfl (wcA_one _) ?_))
      go_cut [6] (fun t wd => t = .int .i64 ((cutAt cuts k : Nat) : Int) ∧ wr.alloc (.cells (wcA x) 65) = wd)
      case first =>
        by_cases hkc : k < cuts.length
        · obtain ⟨gu, ou, rfl, hcc⟩ := hBc.get k hkc
          have hcv : RowKit.Hid (((cutAt cuts k : Nat) : Int) = ((cuts.getD k 0).toNat : Int) % 33) := Lib.hid (by unfold cutAt; rw [if_pos hkc]; omega)
          have hbb := (cuts.getD k 0).toNat_lt
          have hki : (k : Int) < (cuts.length : Int) := by omega
          go_wp2
          go_meet
          case rel =>
            refine ⟨?_, rfl⟩
            rw [hcv.out]
            exact congrArg (Value.int .i64) (rem33_at cuts k hkc)
        · have hcv : RowKit.Hid (cutAt cuts k = 0) := Lib.hid (by unfold cutAt; rw [if_neg hkc])
          have hki : (cuts.length : Int) ≤ (k : Int) := by omega
          go_wp2
          go_meet
          case rel => exact ⟨by rw [hcv.out]; rfl, rfl⟩
      case rest =>
        have hcut2 := hcut
        obtain ⟨rfl, rfl⟩ := hcut2
        have hcl := hcutl.out
        generalize cutAt cuts k = n at hcl hstep
        have hn0 : (0 : Int) ≤ (n : Int) := by omega
        have hn32 : (n : Int) ≤ 32 := by omega
        have hlt2 : (x.2.take n).length = n := by rw [List.length_take]; omega
        go_upto_region 7 with fail
        go_region_held3 (fun W => W.cell? ⟨p, 0, none⟩ = some (.slice (some ⟨gk, 0, none⟩) d.n d.n) ∧ W.cell? ⟨wr.heap.size, 0, none⟩ = some (.int .i64 (x.1 : Int)))
          ((first | exact ⟨d0, d1⟩ | exact ⟨f0, f1⟩))
          (first
            | (refine step_copyB rfl (.tmp 44) (.tmp 46) rfl gk (x.1 * 32) n 32 rfl cur 63 hk2h.out (.slice (some ⟨wr.heap.size, 1, none⟩) 32 32) x.2 rfl hBx.out (by have := hcsh.out; omega) ?_; intro w3 g1 g2; have f0 := g2.cell d0 hne0; have f1 := g2.cell d1 hne1))
        go_wp2
        go_roundw
        case rel =>
          have hcc : (cur.toList.take (x.1 * 32) ++ (x.2.take n).map u8v ++ cur.toList.drop (x.1 * 32 + (x.2.take n).length)).toArray.toList = (over (lay d.kept d.st (cutAt cuts) k) (x.1 * 32) (x.2.take n)).map u8v := by
            rw [List.toList_toArray]; exact splice_cells hcurh.out _
          exact ⟨k + 1, by omega, by go_num, by rw [hstep.out]; exact hL2.out.put (Chg.trans ((Chg.refl _ _).drew) g2) g1 hcc, ekW.trans ((Chg.trans ((Chg.refl _ _).drew) g2).mono fun j hj => by rw [hj]; exact hFgk)⟩
        case measure => simp [intOf]; omega
    · obtain rfl : k = d.st.length := by omega
      have hD : Disk wr F p ({ ({ d with plan := [], off := false, left := 0 } : D) with kept := lay d.kept d.st (cutAt cuts) d.st.length } : D) := by
        have hl := lay_length hlenh.out hath.out (cutAt cuts) (cutAt_le cuts) _ (Nat.le_refl _)
        have hn : ({ ({ d with plan := [], off := false, left := 0 } : D) with kept := lay d.kept d.st (cutAt cuts) d.st.length } : D).n = d.n := by
          show (lay _ _ _ _).length / 32 = _
          rw [hl]; omega
        refine ⟨gk, _, _, -1, by rw [hn]; exact hL.head, hFp, hL.parts, rfl, by omega, by omega, ⟨?_, ?_, fun x hx => ?_⟩⟩
        · rw [hn]; exact hl
        · rw [hn]; exact hmost
        · rw [hn]; exact hath.out x hx
      go_wp2_with (go_at_call 18; refine (drop_any hD).mono ?_; rintro e w2 ⟨rfl, hc2, hD2⟩)
      go_end0
      exact ⟨rfl, ek.trans (hc2.mono fun k hk => by rw [hk]; exact hFp), by rw [← drop_crash]; exact hD2⟩
end Go.Proofs.Ytehgdoceaeammaa
