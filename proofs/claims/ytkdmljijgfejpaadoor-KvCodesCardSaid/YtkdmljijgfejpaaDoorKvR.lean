/- KvCodes: the walk. -/
import Derived.Test.YtkdmljijgfejpaaDoorKvQ
namespace Go.Proofs.YtkdmljijgfejpaaDoor
set_option linter.unusedVariables false
set_option linter.unusedSimpArgs false
open Go.RowKit Kv Fr

theorem enc_back {l : List Ch} (h : encE l = 0) : decE (encO l) = 0 ∧ decO (encO l) = l := by
  unfold encO
  rw [if_pos h]
  exact dec_yes (decL_encB h)
theorem dec_back {b : List UInt8} (h : decE b = 0) : encE (decO b) = 0 ∧ encO (decO b) = b ∧ (decO b).length ≤ b.length := by
  unfold decE at h
  cases hd : decL b with
  | none => rw [hd] at h; cases h
  | some l =>
    have hO : decO b = l := (dec_yes hd).2
    obtain ⟨h1, h2⟩ := encB_decL hd
    rw [hO]
    refine ⟨h1, by unfold encO; rw [if_pos h1, h2], ?_⟩
    rw [← h2]
    unfold encB
    have : ∀ l : List Ch, l.length ≤ (l.flatMap oneC).length := fun l => by
      induction l with
      | nil => simp
      | cons c l ih => rw [List.flatMap_cons, List.length_append, List.length_cons, one_length]; omega
    exact this l
theorem dec_len (b : List UInt8) : (decO b).length ≤ b.length := by
  by_cases h : decE b = 0
  · exact (dec_back h).2.2
  · unfold decE at h
    unfold decO
    cases hd : decL b with
    | none => simp
    | some l => rw [hd] at h; exact absurd rfl h
set_option maxRecDepth 20000 in
set_option maxHeartbeats 4000000 in
theorem kvCodes_any (v1 : Value) (l : List Ch) (v2 : Value) (b : List UInt8) (w : World) (hw : Halves w) (h1 : Chs w v1 l) (h2 : Bytes w v2 b) :
    Calls Tryd.prog 3 #[v1, v2] w (LawEnd w) := by
  have haw := awake11_any w hw
  have h1h := Lib.hid h1
  have h2h := Lib.hid h2
  obtain ⟨a1, c1, rfl, hlm, hget⟩ := h1.shape
  have hgh := Lib.hid hget
  obtain ⟨a2, c2, rfl, -⟩ := h2
  clear h1 hw hget
  by_cases hl : 20 < l.length
  · have i1 : (20 : Int) < (l.length : Int) := by omega
    go_enter Tryd.func3, Tryd.ntmps3
    go_wp2_with (go_at_call 8; refine haw.mono ?_; rintro e w1 ⟨rfl, e1⟩)
    go_ret
    exact ⟨rfl, e1⟩
  have i1 : ¬ (20 : Int) < (l.length : Int) := by omega
  by_cases hb : 500 < b.length
  · have i2 : (500 : Int) < (b.length : Int) := by omega
    go_enter Tryd.func3, Tryd.ntmps3
    go_wp2_with (go_at_call 8; refine haw.mono ?_; rintro e w1 ⟨rfl, e1⟩)
    go_ret
    exact ⟨rfl, e1⟩
  have i2 : ¬ (500 : Int) < (b.length : Int) := by omega
  have hlh := Lib.hid hl
  have hbh := Lib.hid hb
  clear hl hb
  go_enter Tryd.func3, Tryd.ntmps3
  go_wp2_with (go_at_call 8; refine haw.mono ?_; rintro e w1 ⟨rfl, e1⟩)
  clear haw i1 i2
  go_loopw [6] (fun i wr => ∃ k : Nat, k ≤ l.length ∧ i = .int .i64 (k : Int) ∧ Ext w wr) (fun i _ => l.length - (intOf i).toNat)
  case atStart => exact ⟨0, Nat.zero_le _, rfl, e1⟩
  case round =>
    clear e1
    obtain ⟨k, hk, rfl, ek⟩ := hrel
    by_cases hlt : k < l.length
    · obtain ⟨g, o, rfl, hr, hf⟩ := hgh.out k l[k] (List.getElem?_eq_getElem hlt)
      have hki : (k : Int) < (l.length : Int) := by omega
      have hw1 : IntKind.i64.wrap ((k : Int) + 1) = (k : Int) + 1 := by rw [IntKind.wrap_i64]; omega
      have r0 : wr.cell? ⟨g, o + k * 3, none⟩ = some (.string (str l[k].k)) := ek.cell (hr 0 _ rfl)
      have r1 : wr.cell? ⟨g, o + k * 3 + 1, none⟩ = some (.string (str l[k].v)) := ek.cell (hr 1 _ rfl)
      clear hr
      generalize l[k] = x at *
      by_cases q1 : 80 < x.k.length
      · have j1 : (80 : Int) < (x.k.length : Int) := by omega
        go_wp2
        go_ret
        exact ⟨rfl, ek⟩
      · have j1 : ¬ (80 : Int) < (x.k.length : Int) := by omega
        by_cases q2 : 320 < x.v.length
        · have j2 : (320 : Int) < (x.v.length : Int) := by omega
          go_wp2
          go_ret
          exact ⟨rfl, ek⟩
        · have j2 : ¬ (320 : Int) < (x.v.length : Int) := by omega
          go_wp2
          go_roundw
          case rel => exact ⟨k + 1, by omega, by go_num, ek⟩
          case measure => simp [intOf]; omega
    · obtain rfl : k = l.length := by omega
      have hE1 := kvEncode_any _ l wr (h1h.out.ext ek) (by have := hlh.out; omega)
      have hE2 := fun W => Lib.hid (fun (e : Ext wr W) => refEncode_any _ l W (h1h.out.ext (ek.trans e)) (by have := hlh.out; omega))
      have hD1 := fun W => Lib.hid (fun (e : Ext wr W) => kvDecode_any _ b W (h2h.out.ext (ek.trans e)))
      have hD2 := fun W => Lib.hid (fun (e : Ext wr W) => refDecode_any _ b W (h2h.out.ext (ek.trans e)) (by have := hbh.out; omega))
      have hdl := Lib.hid (dec_len b)
      have heb := Lib.hid (@enc_back l)
      have hdb := Lib.hid (@dec_back b)
      have ekh := Lib.hid ek
      obtain ⟨X, hX⟩ : ∃ X, X = encO l := ⟨_, rfl⟩
      obtain ⟨C, hC⟩ : ∃ C, C = decO b := ⟨_, rfl⟩
      rw [← hX] at heb hE1
      rw [← hC] at hdl hdb
      simp only [← hX] at hE2
      simp only [← hC] at hD1 hD2
      clear hX hC ek hgh
      go_upto_region 10 with (go_at_call 9; refine hE1.mono ?_; rintro e w2 ⟨r, rfl, x, rfl, ox, e2⟩)
      go_upto_region 11 with (go_at_call 10; refine ((hE2 w2).out e2).mono ?_; rintro e w3 ⟨r, rfl, y, rfl, oy, e3⟩)
      have e23 := e2.trans e3
      go_upto_region 12 with (go_at_call 11; refine ((hD1 w3).out e23).mono ?_; rintro e w4 ⟨r, rfl, c, rfl, oc, e4⟩)
      have e24 := e23.trans e4
      go_upto_region 13 with (go_at_call 12; refine ((hD2 w4).out e24).mono ?_; rintro e w5 ⟨r, rfl, d, rfl, od, e5⟩)
      have bx := Lib.hid (show ∀ W, Ext w5 W → Bytes W x X from fun W e => ((((ox.bytes.ext e3).ext e4).ext e5).ext e))
      have byy := Lib.hid (show ∀ W, Ext w5 W → Bytes W y X from fun W e => (((oy.bytes.ext e4).ext e5).ext e))
      have rc := Lib.hid (show ∀ W, Ext w5 W → Chs W c C from fun W e => ((oc.ext e5).ext e).rs (by decide) chc_len)
      have rd := Lib.hid (show ∀ W, Ext w5 W → Chs W d C from fun W e => (od.ext e).rs (by decide) chc_len)
      have e05 := Lib.hid (ekh.out.trans (e24.trans e5))
      clear hE1 hE2 hD1 hD2 ox oy oc od e2 e3 e4 e5 e23 e24
      by_cases hE : encE l = 0
      · have hDx := kvDecode_any x X w5 (bx.out w5 (Ext.refl w5))
        rw [(heb.out hE).1, (heb.out hE).2] at hDx
        rw [hE]
        go_upto_region 17 with (first
          | (go_at_call 11; refine hDx.mono ?_; rintro e w6 ⟨r, rfl, m, rfl, om, e6⟩; have hCh := refChs_any m _ l l w6 (om.rs (by decide) chc_len) (h1h.out.ext (e05.out.trans e6)); rw [eqB_self] at hCh)
          | (go_at_call 13; refine hCh.mono ?_; rintro e w7 ⟨rfl, e7⟩))
        have e57 := Lib.hid (e6.trans e7)
        clear hDx hCh om e6 e7
        by_cases hD : decE b = 0
        · have hEx := kvEncode_any c C w7 (rc.out w7 e57.out) (by have := hdl.out; have := hbh.out; omega)
          rw [(hdb.out hD).1, (hdb.out hD).2.1] at hEx
          rw [hD]
          go_upto_region 21 with (first
            | (go_at_call 9; refine hEx.mono ?_; rintro e w8 ⟨r, rfl, z, rfl, oz, e8⟩; have hSm := same9_any z _ b b w8 oz.bytes (h2h.out.ext ((e05.out.trans e57.out).trans e8)); rw [seq_self] at hSm)
            | (go_at_call 14; refine hSm.mono ?_; rintro e w' ⟨rfl, rfl⟩))
          have e58 := Lib.hid (e57.out.trans e8)
          clear hEx hSm oz e8
          have hS := same9_any x y X X w8 (bx.out w8 e58.out) (byy.out w8 e58.out)
          have hC := refChs_any c d C C w8 (rc.out w8 e58.out) (rd.out w8 e58.out)
          rw [seq_self] at hS
          rw [eqB_self] at hC
          go_wp2_with (first
            | (go_at_call 14; refine hS.mono ?_; rintro e w' ⟨rfl, rfl⟩)
            | (go_at_call 13; refine hC.mono ?_; rintro e w9 ⟨rfl, e9⟩))
          go_ret
          exact ⟨rfl, (e05.out.trans e58.out).trans e9⟩
        · have hD2 := beq_ff hD
          obtain ⟨w8, e58, hw8⟩ : ∃ W, RowKit.Hid (Ext w5 W) ∧ W = w7 := ⟨w7, e57, rfl⟩
          generalize decE b = D at *
          clear hD
          go_upto_region 21 with fail
          rw [← hw8]
          clear hw8
          have hS := same9_any x y X X w8 (bx.out w8 e58.out) (byy.out w8 e58.out)
          have hC := refChs_any c d C C w8 (rc.out w8 e58.out) (rd.out w8 e58.out)
          rw [seq_self] at hS
          rw [eqB_self] at hC
          go_wp2_with (first
            | (go_at_call 14; refine hS.mono ?_; rintro e w' ⟨rfl, rfl⟩)
            | (go_at_call 13; refine hC.mono ?_; rintro e w9 ⟨rfl, e9⟩))
          go_ret
          exact ⟨rfl, (e05.out.trans e58.out).trans e9⟩
      · have hE2 := beq_ff hE
        obtain ⟨w7, e57, hw7⟩ : ∃ W, RowKit.Hid (Ext w5 W) ∧ W = w5 := ⟨w5, Lib.hid (Ext.refl w5), rfl⟩
        generalize encE l = E at *
        clear hE
        go_upto_region 17 with fail
        rw [← hw7]
        clear hw7
        by_cases hD : decE b = 0
        · have hEx := kvEncode_any c C w7 (rc.out w7 e57.out) (by have := hdl.out; have := hbh.out; omega)
          rw [(hdb.out hD).1, (hdb.out hD).2.1] at hEx
          rw [hD]
          go_upto_region 21 with (first
            | (go_at_call 9; refine hEx.mono ?_; rintro e w8 ⟨r, rfl, z, rfl, oz, e8⟩; have hSm := same9_any z _ b b w8 oz.bytes (h2h.out.ext ((e05.out.trans e57.out).trans e8)); rw [seq_self] at hSm)
            | (go_at_call 14; refine hSm.mono ?_; rintro e w' ⟨rfl, rfl⟩))
          have e58 := Lib.hid (e57.out.trans e8)
          clear hEx hSm oz e8
          have hS := same9_any x y X X w8 (bx.out w8 e58.out) (byy.out w8 e58.out)
          have hC := refChs_any c d C C w8 (rc.out w8 e58.out) (rd.out w8 e58.out)
          rw [seq_self] at hS
          rw [eqB_self] at hC
          go_wp2_with (first
            | (go_at_call 14; refine hS.mono ?_; rintro e w' ⟨rfl, rfl⟩)
            | (go_at_call 13; refine hC.mono ?_; rintro e w9 ⟨rfl, e9⟩))
          go_ret
          exact ⟨rfl, (e05.out.trans e58.out).trans e9⟩
        · have hD2 := beq_ff hD
          obtain ⟨w8, e58, hw8⟩ : ∃ W, RowKit.Hid (Ext w5 W) ∧ W = w7 := ⟨w7, e57, rfl⟩
          generalize decE b = D at *
          clear hD
          go_upto_region 21 with fail
          rw [← hw8]
          clear hw8
          have hS := same9_any x y X X w8 (bx.out w8 e58.out) (byy.out w8 e58.out)
          have hC := refChs_any c d C C w8 (rc.out w8 e58.out) (rd.out w8 e58.out)
          rw [seq_self] at hS
          rw [eqB_self] at hC
          go_wp2_with (first
            | (go_at_call 14; refine hS.mono ?_; rintro e w' ⟨rfl, rfl⟩)
            | (go_at_call 13; refine hC.mono ?_; rintro e w9 ⟨rfl, e9⟩))
          go_ret
          exact ⟨rfl, (e05.out.trans e58.out).trans e9⟩
end Go.Proofs.YtkdmljijgfejpaaDoor
