/- The document's Right, One, Encode. -/
import Derived.Test.YtkdmljijgfejpaaDoorGKr
import Derived.Laws.IdiomStrings
import Derived.Laws.AppendOwn
import Derived.Laws.StructEq
import Derived.Deep.QuietTactic
import Derived.BigQuiet
namespace Go.Proofs.YtkdmljijgfejpaaDoor
set_option linter.unusedVariables false
set_option linter.unusedSimpArgs false
open Go.RowKit Kv

/-- '[]byte(s)' -/
theorem conv_str (l : List UInt8) (W : World) (hl : l.length ≤ 1000000) : ∃ v w', (convert 9 23 (.string (str l))).run Tryd.prog W = .ok v w' ∧ Bytes w' v l ∧ Ext W w' ∧ ∃ a c, v = .slice a l.length c := by
  have h := run_bytes_of_string (P := Tryd.prog) W 9 23 5 (str l) Tryd.underlying9 Tryd.underlying23 Tryd.underlying5
  have h1 := grownCap_ge W (str l).size 0 5
  have h2 := grownCap_le_maxLen W (str l).size 0 5 (by rw [str_size]; unfold maxLen; omega)
  generalize grownCap W (str l).size 0 5 = C at *
  rw [str_size] at h h1
  refine ⟨_, _, h, ⟨_, C, rfl, h1, h2, fun h => (by cases h), fun j hj => ⟨W.heap.size, 0, rfl, ?_⟩⟩, (Ext.refl W).drew.alloc _, _, _, rfl⟩
  have hn : (W.drew.alloc (.cells (bytesRow (str l) C) 5 ((bytesRow (str l) C).size, (bytesRow (str l) C).size + 1))).heap[W.heap.size]? = some (.cells (bytesRow (str l) C) 5 ((bytesRow (str l) C).size, (bytesRow (str l) C).size + 1)) := heap_alloc_new W.drew _
  rw [cell_of_row _ _ _ _ _ _ hn, Nat.zero_add]
  have hs : (str l).data.size = l.length := str_size l
  rw [bytesRow_at (str l) C j (by omega)]
  have : (str l).data[j]'(by omega) = l[j] := by simp [str]
  rw [this]
theorem refRight_any (c : Ch) (w : World) (hf : chF c) : Calls Tryd.prog 34 #[.agg #[.string (str c.k), .string (str c.v), .bool c.g]] w fun e w' => e = .returned (.bool (rightC c)) ∧ Ext w w' := by
  have hR : RowKit.Hid (rightC c = (decide (1 ≤ c.k.length) && (decide (c.k.length ≤ 64) && (decide (c.v.length ≤ 300) && (!c.g || c.v.isEmpty))))) := Lib.hid rfl
  obtain ⟨hk, hv⟩ := hf
  unfold fit at hk hv
  have e0 := (Ext.refl w).alloc (.cells #[.string (str c.k), .string (str c.v), .bool c.g] 26)
  obtain ⟨k, v, g⟩ := c
  dsimp only at *
  have q0 : RowKit.Hid (v.isEmpty = seq v []) := Lib.hid (by
    cases hq : seq v []
    · have := seq_false.1 hq
      cases v with
      | nil => exact absurd rfl this
      | cons _ _ => rfl
    · rw [seq_true.1 hq]; rfl)
  rw [q0.out] at hR
  by_cases h1 : 1 ≤ k.length
  · have i1 : ¬ (k.length : Int) < 1 := by omega
    by_cases h2 : k.length ≤ 64
    · have i2 : ¬ (64 : Int) < (k.length : Int) := by omega
      by_cases h3 : v.length ≤ 300
      · have i3 : ¬ (300 : Int) < (v.length : Int) := by omega
        cases g
        · have hX := Lib.hid (hR.out.trans (show _ = true by simp [h1, h2, h3]))
          clear hR h1 h2 h3 q0
          go_enter Tryd.func34, Tryd.ntmps34
          go_wp2
          go_ret
          exact ⟨by rw [hX.out]; rfl, e0⟩
        · have hX := Lib.hid (hR.out.trans (show _ = seq v [] by simp [h1, h2, h3]))
          clear hR h1 h2 h3 q0
          go_enter Tryd.func34, Tryd.ntmps34
          go_wp2
          go_ret
          exact ⟨by rw [hX.out]; rfl, e0⟩
      · have i3 : (300 : Int) < (v.length : Int) := by omega
        have hX := Lib.hid (hR.out.trans (show _ = false by simp [h3]))
        clear hR h1 h2 h3 q0
        go_enter Tryd.func34, Tryd.ntmps34
        go_wp2
        go_ret
        exact ⟨by rw [hX.out]; rfl, e0⟩
    · have i2 : (64 : Int) < (k.length : Int) := by omega
      have hX := Lib.hid (hR.out.trans (show _ = false by simp [h2]))
      clear hR h1 h2 q0
      go_enter Tryd.func34, Tryd.ntmps34
      go_wp2
      go_ret
      exact ⟨by rw [hX.out]; rfl, e0⟩
  · have i1 : (k.length : Int) < 1 := by omega
    have hX := Lib.hid (hR.out.trans (show _ = false by simp [h1]))
    clear hR h1 q0
    go_enter Tryd.func34, Tryd.ntmps34
    go_wp2
    go_ret
    exact ⟨by rw [hX.out]; rfl, e0⟩
set_option maxRecDepth 20000 in
set_option maxHeartbeats 2000000 in
theorem refOne_any (c : Ch) (w : World) (hc : rightC c = true) : Calls Tryd.prog 35 #[.agg #[.string (str c.k), .string (str c.v), .bool c.g]] w (Ret fun v w' => OwnB w' w.heap.size v (oneC c) ∧ Ext w w') := by
  obtain ⟨h1, h2, h3, h4⟩ := right_parts hc
  have hO : RowKit.Hid (oneC c = [UInt8.ofNat c.k.length] ++ c.k ++ sz2 c ++ c.v) := Lib.hid rfl
  have hz : RowKit.Hid (sz2 c = if c.g then [255, 255] else [UInt8.ofNat (c.v.length / 256), UInt8.ofNat (c.v.length % 256)]) := Lib.hid rfl
  have kk : IntKind.u8.wrap (c.k.length : Int) = (c.k.length : Int) := by rw [IntKind.wrap_u8]; omega
  obtain ⟨W1, hW1⟩ : ∃ W, W = w.alloc (.cells #[.string (str c.k), .string (str c.v), .bool c.g] 26) := ⟨_, rfl⟩
  obtain ⟨B0, hB0⟩ : ∃ B, B = w.heap.size := ⟨_, rfl⟩
  have e0 := Lib.hid (show Ext w W1 from by rw [hW1]; exact (Ext.refl w).alloc _)
  have hb0 := Lib.hid (show W1.heap[B0]? = some (.cells #[.string (str c.k), .string (str c.v), .bool c.g] 26 (0, 0)) from by rw [hW1, hB0]; exact heap_alloc_new w _)
  have hBs := Lib.hid (show B0 + 1 = W1.heap.size from by rw [hW1, World.size_alloc, hB0])
  have hS := Lib.hid (show ∀ W, Ext W1 W → (W.cell? ⟨B0, 0, none⟩ = some (.string (str c.k)) ∧ W.cell? ⟨B0, 1, none⟩ = some (.string (str c.v)) ∧ W.cell? ⟨B0, 2, none⟩ = some (.bool c.g)) from fun W e => ⟨cell_at (e.heap hb0.out) 0 rfl, cell_at (e.heap hb0.out) 1 rfl, cell_at (e.heap hb0.out) 2 rfl⟩)
  obtain ⟨k, v, g⟩ := c
  dsimp only at *
  go_enter Tryd.func35, Tryd.ntmps35
  go_upto_region 2 with fail
  rw [← hW1, ← hB0, hBs.out]
  have o1 := Lib.hid (show OwnB (W1.alloc (.cells #[.int .u8 (k.length : Int)] 5)) W1.heap.size (.slice (some ⟨W1.heap.size, 0, none⟩) 1 1) [UInt8.ofNat k.length] from OwnB.lit rfl (by simp [u8v, UInt8.toNat_ofNat', Nat.mod_eq_of_lt (show k.length < 256 by omega)]) rfl (by decide) (Nat.le_refl _))
  have e1 := Lib.hid ((Ext.refl W1).alloc (.cells #[.int .u8 (k.length : Int)] 5))
  generalize W1.alloc (.cells #[.int .u8 (k.length : Int)] 5) = W2 at *
  clear hW1 hB0
  obtain ⟨c0, -, -⟩ := hS.out _ e1.out
  obtain ⟨vk, wk, hcv, bk, ek, ak, ck, rfl⟩ := conv_str k W2 (by omega)
  go_upto_region 3 with (at_builtin; refine wpList_appendB rfl (.tmp 9) (.tmp 12) rfl W1.heap.size _ [UInt8.ofNat k.length] rfl (o1.out.ext ek) (.slice ak k.length ck) k rfl bk (by simp; omega) (e1.out.trans ek).size ?_; intro v3 w3 o3 g3)
  have e3 := Lib.hid ((e1.out.trans ek).grown g3 (fun j hj => by cases hj; exact Nat.le_refl _))
  have o3h := Lib.hid o3
  obtain ⟨a3, c3, rfl, -⟩ := id o3.bytes
  have hcl : ([UInt8.ofNat k.length] ++ k).length = k.length + 1 := by simp
  clear o3 g3 hcv bk ek c0 o1
  obtain ⟨-, d1, d2⟩ := hS.out _ e3.out
  have hvl := Lib.hid h3
  have hkl := Lib.hid h2
  cases g
  · rw [if_neg (by simp)] at hz
    obtain ⟨A, hA⟩ : ∃ A, A = v.length / 256 := ⟨_, rfl⟩
    obtain ⟨B, hB⟩ : ∃ B, B = v.length % 256 := ⟨_, rfl⟩
    have tA : (v.length : Int) / 256 = (A : Int) := by omega
    have tB : Int.tmod (v.length : Int) 256 = (B : Int) := by rw [Int.tmod_eq_emod_of_nonneg (by omega)]; omega
    have tB' : (v.length : Int) % 256 = (B : Int) := by omega
    have wA : IntKind.u8.wrap (A : Int) = (A : Int) := by rw [IntKind.wrap_u8]; omega
    have wB : IntKind.u8.wrap (B : Int) = (B : Int) := by rw [IntKind.wrap_u8]; omega
    have w6 : IntKind.i64.wrap (A : Int) = (A : Int) := wrap_sm (by omega)
    have hAl := Lib.hid (show A < 256 by omega)
    have hBl := Lib.hid (show B < 256 by omega)
    have hz2 := Lib.hid (hz.out.trans (show _ = [UInt8.ofNat A, UInt8.ofNat B] by rw [hA, hB]))
    clear hz hA hB h1 h2 h3 h4
    go_upto_region 6 with (at_builtin; refine wpList_appendB rfl (.tmp 19) (.tmp 30) rfl W1.heap.size (.slice a3 (k.length + 1) c3) ([UInt8.ofNat k.length] ++ k) rfl (o3h.out.ext ((Ext.refl w3).alloc _)) (.slice (some ⟨w3.heap.size, 0, none⟩) 2 2) [UInt8.ofNat A, UInt8.ofNat B] rfl (Bytes.lit (w := w3) (C := #[.int .u8 (A : Int), .int .u8 (B : Int)]) (e := 5) rfl (by simp [u8v, UInt8.toNat_ofNat', Nat.mod_eq_of_lt hAl.out, Nat.mod_eq_of_lt hBl.out]) rfl (Nat.le_refl _) (show 2 ≤ maxLen by decide)) (by have := hkl.out; simp; omega) (Nat.le_trans e3.out.size ((Ext.refl w3).alloc _).size) ?_; intro v4 w4 o4 g4)
    have e4 := Lib.hid ((e3.out.alloc (.cells #[.int .u8 (A : Int), .int .u8 (B : Int)] 5)).grown g4 (fun j hj => o3h.out.lt j hj))
    have o4h := Lib.hid o4
    clear o4 g4 d1 d2
    obtain ⟨-, d1, -⟩ := hS.out _ e4.out
    obtain ⟨vv, wv, hcv, bv, ev, av, cv, rfl⟩ := conv_str v w4 (by have := hvl.out; omega)
    go_wp2_with (at_builtin; refine wpList_appendB rfl (.tmp 32) (.tmp 35) rfl W1.heap.size v4 ([UInt8.ofNat k.length] ++ k ++ [UInt8.ofNat A, UInt8.ofNat B]) rfl (o4h.out.ext ev) (.slice av v.length cv) v rfl bv (by have := hkl.out; have := hvl.out; simp; omega) (e4.out.trans ev).size ?_; intro v5 w5 o5 g5)
    go_ret
    exact Ret.mk ⟨by rw [hO.out, hz2.out]; exact o5.down e0.out.size, e0.out.trans ((e4.out.trans ev).grown g5 (fun j hj => o4h.out.lt j hj))⟩
  · rw [if_pos rfl] at hz
    have hv0 := Lib.hid (h4 rfl)
    clear h1 h2 h3 h4
    go_wp2_with (at_builtin; refine wpList_appendB rfl (.tmp 16) (.tmp 17) rfl W1.heap.size (.slice a3 (k.length + 1) c3) ([UInt8.ofNat k.length] ++ k) rfl (o3h.out.ext ((Ext.refl w3).alloc _)) (.slice (some ⟨w3.heap.size, 0, none⟩) 2 2) [255, 255] rfl (Bytes.lit (w := w3) (C := #[.int .u8 255, .int .u8 255]) (e := 5) rfl rfl rfl (Nat.le_refl _) (show 2 ≤ maxLen by decide)) (by have := hkl.out; simp; omega) (Nat.le_trans e3.out.size ((Ext.refl w3).alloc _).size) ?_; intro v4 w4 o4 g4)
    go_ret
    exact Ret.mk ⟨by rw [hO.out, hz.out, hv0.out, List.append_nil]; exact o4.down e0.out.size, e0.out.trans ((e3.out.alloc (.cells #[.int .u8 255, .int .u8 255] 5)).grown g4 (fun j hj => o3h.out.lt j hj))⟩
/-- the document's changes' bytes -/
theorem refEncode_any (v : Value) (l : List Ch) (w : World) (h : Chs w v l) (hl : l.length ≤ 10000) :
    Calls Tryd.prog 10 #[v] w (Ret fun r w' => ∃ u, r = .tuple #[u, .int .i64 (encE l)] ∧ OwnB w' w.heap.size u (encO l) ∧ Ext w w') := by
  refine gen_post ?_
  intro Q0 hQ0
  obtain ⟨a, cap, rfl, hlm, hget⟩ := h.shape
  have hgh := Lib.hid hget
  clear h hget
  have e0 := Ext.refl w
  go_enter Tryd.func10, Tryd.ntmps10
  go_wp2
  go_loopw [4, 5] (fun out i wr => ∃ k : Nat, k ≤ l.length ∧ i = .int .i64 (k : Int) ∧ RowKit.Hid (OwnB wr w.heap.size out (encB (l.take k))) ∧ RowKit.Hid ((l.take k).all rightC = true) ∧ Ext w wr) (fun _ i _ => l.length - (intOf i).toNat)
  case atStart => exact ⟨0, Nat.zero_le _, rfl, Lib.hid (OwnB.none w w.heap.size), Lib.hid rfl, e0⟩
  case round =>
    obtain ⟨k, hk, rfl, ho, hal, ek⟩ := hrel
    by_cases hlt : k < l.length
    · obtain ⟨g, o, rfl, hr, hf⟩ := hgh.out k l[k] (List.getElem?_eq_getElem hlt)
      have hki : (k : Int) < (l.length : Int) := by omega
      have hw : IntKind.i64.wrap ((k : Int) + 1) = (k : Int) + 1 := by rw [IntKind.wrap_i64]; omega
      have hnx := Lib.hid (encB_take hlt)
      have hal2 := Lib.hid (fun h => all_take hlt hal.out h)
      have hbad := Lib.hid (fun h => encE_bad (List.getElem_mem hlt) h)
      have hol := Lib.hid (encB_len _ hal.out)
      rw [List.length_take, Nat.min_eq_left (by omega)] at hol
      have hrw : wr.rangeAt g (o + k * 3) [.string (str l[k].k), .string (str l[k].v), .bool l[k].g] := fun j u hu => ek.cell (hr j u hu)
      generalize l[k] = x at *
      generalize encB (l.take k) = acc at *
      clear hr
      have hR := fun W => refRight_any x W hf
      cases hrc : rightC x
      · rw [hrc] at hR
        have hE := Lib.hid (hbad.out hrc)
        clear hnx hal2 hbad hol hrc
        go_wp2_with (first
          | (refine wpList_load_mid rfl 26 _ rfl g (o + k * 3) rfl [.string (str x.k), .string (str x.v), .bool x.g] _ hrw Tryd.underlying26 rfl info_ch ?_)
          | (go_at_call 34; refine (hR _).mono ?_; rintro e w2 ⟨rfl, e2⟩))
        refine hQ0.out _ _ (Ret.mk ⟨_, by rw [hE.out]; rfl, ?_, ek.trans e2⟩)
        unfold encO
        rw [hE.out, if_neg (by decide)]
        exact OwnB.none _ _
      · rw [hrc] at hR
        have hal3 := Lib.hid (hal2.out hrc)
        have hOne := Lib.hid (fun W => refOne_any x W hrc)
        have h1l := Lib.hid (show (oneC x).length ≤ 400 from by obtain ⟨q1, q2, q3, q4⟩ := right_parts hrc; have := one_length x; omega)
        clear hal2 hbad hrc hal
        obtain ⟨ao, co, rfl, -⟩ := id ho.out.bytes
        go_wp2_with (first
          | (refine wpList_load_mid rfl 26 _ rfl g (o + k * 3) rfl [.string (str x.k), .string (str x.v), .bool x.g] _ hrw Tryd.underlying26 rfl info_ch ?_)
          | (go_at_call 34; refine (hR _).mono ?_; rintro e w2 ⟨rfl, e2⟩; have hrw2 : w2.rangeAt g (o + k * 3) [.string (str x.k), .string (str x.v), .bool x.g] := fun j u hu => e2.cell (hrw j u hu))
          | (refine wpList_load_mid rfl 26 _ rfl g (o + k * 3) rfl [.string (str x.k), .string (str x.v), .bool x.g] _ hrw2 Tryd.underlying26 rfl info_ch ?_)
          | (go_at_call 35; refine (hOne.out _).mono ?_; rintro e w3 ⟨v3, rfl, o3, e3⟩)
          | (at_builtin; refine wpList_appendB rfl (.tmp 20) (.tmp 25) rfl w.heap.size (.slice ao acc.length co) acc rfl ((ho.out.ext e2).ext e3) v3 (oneC x) rfl o3.bytes (by have := hol.out; have := h1l.out; omega) ((ek.trans e2).trans e3).size ?_; intro v4 w4 o4 g4))
        have e4 := ((ek.trans e2).trans e3).grown g4 (fun j hj => ho.out.lt j hj)
        go_roundw
        case rel => exact ⟨k + 1, by omega, by go_num, Lib.hid (by rw [hnx.out]; exact o4), hal3, e4⟩
        case measure => simp [intOf]; omega
    · obtain rfl : k = l.length := by omega
      rw [List.take_length] at ho hal
      have hol := Lib.hid (encB_len _ hal.out)
      obtain ⟨ao, co, rfl, -⟩ := id ho.out.bytes
      by_cases h4 : (encB l).length ≤ 4000
      · have hE := Lib.hid (show encE l = 0 from encE_zero.2 ⟨hal.out, h4⟩)
        have i4 : ¬ (4000 : Int) < ((encB l).length : Int) := by omega
        have hOO := Lib.hid (show encO l = encB l from by unfold encO; rw [if_pos hE.out])
        clear h4
        generalize encB l = acc at *
        go_wp2
        exact hQ0.out _ _ (Ret.mk ⟨_, by rw [hE.out], by rw [hOO.out]; exact ho.out, ek⟩)
      · have hE := Lib.hid (show encE l = 2 from by unfold encE; rw [hal.out, if_neg h4]; rfl)
        have i4 : (4000 : Int) < ((encB l).length : Int) := by omega
        clear h4
        generalize encB l = acc at *
        go_wp2
        refine hQ0.out _ _ (Ret.mk ⟨_, by rw [hE.out]; rfl, ?_, ek⟩)
        unfold encO
        rw [hE.out, if_neg (by decide)]
        exact OwnB.none _ _
end Go.Proofs.YtkdmljijgfejpaaDoor


namespace Go.Proofs.YtkdmljijgfejpaaDoor
set_option linter.unusedVariables false
set_option linter.unusedSimpArgs false
open Go.RowKit Kv

theorem kbytes_from {w : World} {g o n cap : Nat} {l : List UInt8} (h : Bytes w (.slice (some ⟨g, o, none⟩) n cap) l) (k : Nat) (hk : k < l.length) : Bytes w (.slice (some ⟨g, o + k, none⟩) (n - k) (cap - k)) (l.drop k) := by
  obtain ⟨a, cap', e, h⟩ := h
  simp only [Value.slice.injEq] at e
  obtain ⟨rfl, rfl, rfl⟩ := e
  have h1 := h.le
  have h2 := h.capm
  refine Bytes.row (by simp) (by simp; omega) (by omega) fun j hj => ?_
  have hj' : k + j < l.length := by simp at hj; omega
  obtain ⟨g', o', e, hc⟩ := h.cells (k + j) hj'
  cases e
  rw [Nat.add_assoc, hc]
  simp
theorem Bytes.kinit {w : World} {a : Option Addr} {n cap : Nat} {l : List UInt8} (h : Bytes w (.slice a n cap) l) (m : Nat) (hm : m ≤ l.length) : Bytes w (.slice a m cap) (l.take m) := by
  obtain ⟨a', cap', e, hat⟩ := h
  simp only [Value.slice.injEq] at e
  obtain ⟨rfl, rfl, rfl⟩ := e
  have hl : (l.take m).length = m := by rw [List.length_take]; omega
  refine ⟨_, _, by rw [hl], by have := hat.le; omega, hat.capm, hat.none, fun j hj => ?_⟩
  obtain ⟨g, o, h1, h2⟩ := hat.cells j (by omega)
  exact ⟨g, o, h1, by rw [h2]; simp⟩
set_option maxRecDepth 20000 in
set_option maxHeartbeats 8000000 in
theorem refDecode_any (v : Value) (b : List UInt8) (w : World) (hb : Bytes w v b) (hbl : b.length ≤ 10000) :
    Calls Tryd.prog 12 #[v] w (Ret fun r w' => ∃ u, r = .tuple #[u, .int .i64 (decE b)] ∧ OwnC w' (fun k => w.heap.size ≤ k) u (decO b) ∧ Ext w w') := by
  refine gen_post ?_
  intro Q0 hQ0
  obtain ⟨a, cap, rfl, hbb⟩ := id hb
  have hcap := hbb.1
  have hbh := Lib.hid hb
  have e0 := Ext.refl w
  clear hbb hb
  go_enter Tryd.func12, Tryd.ntmps12
  go_wp2
  go_loopw [5, 4] (fun i out wr => ∃ (P : Nat) (pre : List Ch), P ≤ b.length ∧ i = .int .i64 (P : Int) ∧ RowKit.Hid (decA b = (decA (b.drop P)).map (pre ++ ·)) ∧ RowKit.Hid (OwnC wr (fun k => w.heap.size ≤ k) out pre) ∧ pre.length ≤ P ∧ Ext w wr) (fun i _ _ => b.length - (intOf i).toNat)
  case atStart => exact ⟨0, [], Nat.zero_le _, rfl, Lib.hid (by rw [List.drop_zero]; cases decA b <;> rfl), Lib.hid (OwnRs.nil _ _), Nat.zero_le _, e0⟩
  case round =>
    obtain ⟨P, pre, hP, rfl, hd, ho, hpl, ek⟩ := hrel
    by_cases hlt : P < b.length
    rotate_left
    · obtain rfl : P = b.length := by omega
      rw [List.drop_length] at hd
      have hdA : decA b = some pre := by rw [hd.out, decA_nil]; simp
      by_cases hlong : 4000 < b.length
      · have i1 : (4000 : Int) < (b.length : Int) := by omega
        have hE := Lib.hid (decE_long hlong)
        clear hdA hd hlong
        go_wp2
        exact hQ0.out _ _ (Ret.mk ⟨_, by rw [hE.out.1]; rfl, by rw [hE.out.2]; exact OwnRs.nil _ _, ek⟩)
      · have i1 : ¬ (4000 : Int) < (b.length : Int) := by omega
        have hE := Lib.hid (decE_some hlong hdA)
        clear hdA hd hlong
        go_wp2
        exact hQ0.out _ _ (Ret.mk ⟨_, by rw [hE.out.1], by rw [hE.out.2]; exact ho.out, ek⟩)
    · obtain ⟨n, r, hrest⟩ : ∃ n r, b.drop P = n :: r := by
        exact ⟨_, _, List.drop_eq_getElem_cons hlt⟩
      obtain ⟨g, o, rfl⟩ := hbh.out.ad (by omega)
      have hbt := kbytes_from hbh.out P hlt
      rw [hrest] at hbt hd
      have hrl : r.length + 1 + P = b.length := by have := congrArg List.length hrest; rw [List.length_drop, List.length_cons] at this; omega
      have c0 : w.cell? ⟨g, o + P, none⟩ = some (.int .u8 (n.toNat : Int)) := by have := hbt.gt 0 (by simp); simpa using this
      have hPi : (P : Int) < (b.length : Int) := by omega
      have hnl := n.toNat_lt
      have kn : IntKind.i64.wrap (n.toNat : Int) = (n.toNat : Int) := wrap_sm (by omega)
      have hcons := Lib.hid (next_cons n r)
      have hbad := Lib.hid (fun h : nextC (n :: r) = none => decE_none (b := b) (by rw [hd.out, decA_none (by simp) h]; rfl))
      have hbad2 := Lib.hid (fun c t (h : nextC (n :: r) = some (c, t)) (hc : rightC c = false) => decE_none (b := b) (by rw [hd.out, decA_bad h hc]; rfl))
      have hgood := Lib.hid (show ∀ c t, nextC (n :: r) = some (c, t) → rightC c = true → decA b = (decA t).map ((pre ++ [c]) ++ ·) from fun c t h hc => by
        rw [hd.out, decA_step h hc]
        cases decA t <;> simp)
      have hbth := Lib.hid hbt
      have hrh := Lib.hid hrest
      clear hrest hbt hd
      obtain ⟨N, hN⟩ : ∃ N, N = n.toNat := ⟨_, rfl⟩
      rw [← hN] at c0 hnl kn hcons
      clear hN
      obtain ⟨P3, hP3⟩ : ∃ x, x = P + 3 := ⟨_, rfl⟩
      obtain ⟨Q, hQ⟩ : ∃ x, x = P + 3 + N := ⟨_, rfl⟩
      have f3 : IntKind.i64.wrap ((P : Int) + 3) = (P3 : Int) := by rw [show (P : Int) + 3 = (P3 : Int) by omega]; exact wrap_sm (by omega)
      have f4 : IntKind.i64.wrap ((P3 : Int) + (N : Int)) = (Q : Int) := by rw [show (P3 : Int) + (N : Int) = (Q : Int) by omega]; exact wrap_sm (by omega)
      have c0w := ek.cell c0
      by_cases hshort : b.length < Q
      · have i2 : (b.length : Int) < (Q : Int) := by omega
        have hE := Lib.hid (hbad.out (by
          rw [hcons.out]
          by_cases hx : r.length < N
          · rw [if_pos hx]
          · rw [if_neg hx]
            have hl : (r.drop N).length < 2 := by rw [List.length_drop]; omega
            match hdd : r.drop N, hl with
            | [], _ => rfl
            | [_], _ => rfl))
        clear hcons hbad hbad2 hgood hbth hrh hshort hP3 hQ
        go_wp2
        exact hQ0.out _ _ (Ret.mk ⟨_, by rw [hE.out.1]; rfl, by rw [hE.out.2]; exact OwnRs.nil _ _, ek⟩)
      · have i2 : ¬ (b.length : Int) < (Q : Int) := by omega
        obtain ⟨hh, l, u, hdd⟩ : ∃ hh l u, r.drop N = hh :: l :: u := by
          have hl : 2 ≤ (r.drop N).length := by rw [List.length_drop]; omega
          match hdd : r.drop N, hl with
          | hh :: l :: u, _ => exact ⟨hh, l, u, rfl⟩
        have hc2 := hcons.out
        rw [if_neg (by omega), hdd] at hc2
        obtain ⟨S, hS⟩ : ∃ S, S = 256 * hh.toNat + l.toNat := ⟨_, rfl⟩
        simp only [← hS] at hc2
        obtain ⟨K, hK⟩ : ∃ K, K = r.take N := ⟨_, rfl⟩
        rw [← hK] at hc2
        have hc2h := Lib.hid hc2
        have hul : u.length + Q = b.length := by
          have := congrArg List.length hdd
          rw [List.length_drop, List.length_cons, List.length_cons] at this
          omega
        obtain ⟨P1, hP1⟩ : ∃ x, x = P + 1 := ⟨_, rfl⟩
        obtain ⟨P2, hP2⟩ : ∃ x, x = P + 2 := ⟨_, rfl⟩
        obtain ⟨I1, hI1⟩ : ∃ x, x = P + 1 + N := ⟨_, rfl⟩
        obtain ⟨I2, hI2⟩ : ∃ x, x = P + 2 + N := ⟨_, rfl⟩
        have f1 : IntKind.i64.wrap ((P : Int) + 1) = (P1 : Int) := by rw [show (P : Int) + 1 = (P1 : Int) by omega]; exact wrap_sm (by omega)
        have f2 : IntKind.i64.wrap ((P : Int) + 2) = (P2 : Int) := by rw [show (P : Int) + 2 = (P2 : Int) by omega]; exact wrap_sm (by omega)
        have f5 : IntKind.i64.wrap ((P1 : Int) + (N : Int)) = (I1 : Int) := by rw [show (P1 : Int) + (N : Int) = (I1 : Int) by omega]; exact wrap_sm (by omega)
        have f6 : IntKind.i64.wrap ((P2 : Int) + (N : Int)) = (I2 : Int) := by rw [show (P2 : Int) + (N : Int) = (I2 : Int) by omega]; exact wrap_sm (by omega)
        have j1 : (0 : Int) ≤ (P1 : Int) := by omega
        have j2 : (P1 : Int) ≤ (I1 : Int) := by omega
        have j3 : (I1 : Int) ≤ (cap : Int) := by omega
        have j4 : (I1 : Int) < (b.length : Int) := by omega
        have j5 : (I2 : Int) < (b.length : Int) := by omega
        have j6 : ¬ cap = P1 := by omega
        have j7 : I1 - P1 = N := by omega
        have hgt := fun j (hj : j < (n :: r).length) => hbth.out.gt j hj
        have hbl1 : ∀ j x, (n :: r)[j]? = some x → w.cell? ⟨g, o + P + j, none⟩ = some (.int .u8 (x.toNat : Int)) := fun j x hx => by
          have h1 := (List.getElem?_eq_some_iff.1 hx)
          have := hgt j h1.1
          rw [List.getD_eq_getElem?_getD, hx] at this
          exact this
        have hru : ∀ j, r[N + j]? = (hh :: l :: u)[j]? := fun j => by rw [← hdd, List.getElem?_drop]
        have d1 : wr.cell? ⟨g, o + I1, none⟩ = some (.int .u8 (hh.toNat : Int)) := by
          have := ek.cell (hbl1 (N + 0 + 1) hh (by rw [List.getElem?_cons_succ]; exact hru 0))
          rwa [show o + P + (N + 0 + 1) = o + I1 by omega] at this
        have d2 : wr.cell? ⟨g, o + I2, none⟩ = some (.int .u8 (l.toNat : Int)) := by
          have := ek.cell (hbl1 (N + 1 + 1) l (by rw [List.getElem?_cons_succ]; exact hru 1))
          rwa [show o + P + (N + 1 + 1) = o + I2 by omega] at this
        have hKb : Bytes wr (.slice (some ⟨g, o + P1, none⟩) N (cap - P1)) K := by
          have h1 := bytes_tail hbth.out 1 (by simp)
          have h2 := h1.kinit N (by show N ≤ r.length; omega)
          rw [if_neg (by omega), Option.map_some, Addr.add_lit] at h2
          rw [show cap - P - 1 = cap - P1 by omega, show o + P + 1 = o + P1 by omega] at h2
          rw [hK]
          exact h2.ext ek
        have hUb : Bytes w (.slice (if cap = Q then some ⟨g, o, none⟩ else Option.map (fun x => x.add Q) (some (⟨g, o, none⟩ : Addr))) (b.length - Q) (cap - Q)) u := by
          have h1 := bytes_tail hbh.out Q (by omega)
          have h2 : b.drop Q = u := by
            rw [hQ, show P + 3 + N = P + (1 + (N + 2)) by omega, ← List.drop_drop, hrh.out, ← List.drop_drop]
            show (r.drop (N + 2)) = u
            rw [← List.drop_drop, hdd]; rfl
          rwa [h2] at h1
        have hUbh := Lib.hid hUb
        have hk4 := conv_bytes hKb
        have kb : ∀ c : UInt8, IntKind.i64.wrap (c.toNat : Int) = (c.toNat : Int) := fun c => wrap_sm (by have := c.toNat_lt; omega)
        have l1 := hh.toNat_lt
        have l2 := l.toNat_lt
        have s6 : IntKind.i64.wrap (256 * (hh.toNat : Int)) = 256 * (hh.toNat : Int) := wrap_le (by omega) (by omega)
        have s7 : IntKind.i64.wrap (256 * (hh.toNat : Int) + (l.toNat : Int)) = (S : Int) := by rw [show 256 * (hh.toNat : Int) + (l.toNat : Int) = (S : Int) by omega]; exact wrap_sm (by omega)
        have hSl := Lib.hid (show S ≤ 65535 by omega)
        have hdr := Lib.hid (show b.drop Q = u from by
          rw [hQ, show P + 3 + N = P + (1 + (N + 2)) by omega, ← List.drop_drop, hrh.out, ← List.drop_drop]
          show (r.drop (N + 2)) = u
          rw [← List.drop_drop, hdd]; rfl)
        have hQP := Lib.hid (show P + 3 ≤ Q ∧ Q ≤ b.length from by omega)
        clear hcons hc2 hbth hrh hshort hdd hS hK hgt hbl1 hru hUb hKb hP3 hQ hP1 hP2 hI1 hI2 l1 l2
        go_upto_region 8 with (refine wpList_store_new wr rfl 26 _ _ rfl #[.string (str K), .string (str []), .bool false] _ rfl rfl rfl 3 info_ch rfl rfl (by simp [Value.oneCell']) ?_)
        obtain ⟨W2, hW2⟩ : ∃ W, W = wr.alloc (.cells #[.string (str K), .string (str []), .bool false] 26) := ⟨_, rfl⟩
        have e2 := Lib.hid (show Ext wr W2 from by rw [hW2]; exact (Ext.refl wr).alloc _)
        have hbx := Lib.hid (show W2.heap[wr.heap.size]? = some (.cells #[.string (str K), .string (str []), .bool false] 26 (0, 0)) from by rw [hW2]; exact heap_alloc_new wr _)
        rw [← hW2]
        clear hW2
        obtain ⟨B, hB⟩ : ∃ B, B = wr.heap.size := ⟨_, rfl⟩
        rw [← hB] at hbx ⊢
        have hBk := Lib.hid (show wr.heap.size ≤ B by omega)
        clear hB
        have d1' := e2.out.cell d1
        have d2' := e2.out.cell d2
        clear d1 d2 c0 c0w
        go_quiet (fail)
        have e3 := Lib.hid (e2.out.trans (Ext.drewM W2 nq))
        have hbx3 := Lib.hid ((Ext.drewM W2 nq).heap hbx.out)
        clear d1' d2' s6 s7 kb e2 hbx f5 f6 j1 j2 j3 j4 j5 j6 j7
        generalize W2.drewN nq = W3 at *
        go_upto_if 59 with fail
        obtain ⟨SZ, G, hSZ⟩ : ∃ (SZ : Nat) (G : Bool), (S = 65535 ∧ SZ = 0 ∧ G = true) ∨ (S ≠ 65535 ∧ SZ = S ∧ G = false) := by
          by_cases h : S = 65535
          · exact ⟨0, true, .inl ⟨h, rfl, rfl⟩⟩
          · exact ⟨S, false, .inr ⟨h, rfl, rfl⟩⟩
        go_cut [8] (fun s wd => s = .int .i64 (SZ : Int) ∧ Ext wr wd ∧ wd.heap[B]? = some (.cells #[.string (str K), .string (str []), .bool G] 26 (0, 0)))
        case first =>
          rcases hSZ with ⟨hs, rfl, rfl⟩ | ⟨hs, rfl, rfl⟩
          · have q1 : ((S : Int) == 65535) = true := by rw [hs]; rfl
            have fB : W3.frozen? ⟨B, 2, none⟩ = false := by simp [World.frozen?, hbx3.out]
            have cB : W3.cell? ⟨B, 2, none⟩ = some (.bool false) := cell_at hbx3.out 2 rfl
            have hset := setCell_row W3 B 2 _ _ _ (.bool true) hbx3.out
            clear hs
            go_wp2
            go_meet
            exact ⟨rfl, e3.out.cellSet hBk.out _ _, hset⟩
          · have q1 : ((SZ : Int) == 65535) = false := by rw [beq_eq_false_iff_ne]; omega
            clear hs
            go_wp2
            go_meet
            exact ⟨rfl, e3.out, hbx3.out⟩
        case rest =>
          obtain ⟨rfl, e4, hb4⟩ := hcut
          obtain ⟨W4, rfl⟩ : ∃ W, W = wc := ⟨_, rfl⟩
          have hnx := Lib.hid (show nextC (n :: r) = if u.length < SZ then none else some (⟨K, u.take SZ, G⟩, u.drop SZ) from by
            rw [hc2h.out]
            rcases hSZ with ⟨hs, rfl, rfl⟩ | ⟨hs, rfl, rfl⟩
            · rw [if_pos hs, if_neg (Nat.not_lt_zero _), List.take_zero, List.drop_zero]
            · rw [if_neg hs])
          have hZl := Lib.hid (show SZ ≤ 65535 from by
            have := hSl.out
            rcases hSZ with ⟨_, h, _⟩ | ⟨_, h, _⟩ <;> omega)
          clear hSZ hc2h hbx3 e3
          obtain ⟨R, hR⟩ : ∃ R, R = Q + SZ := ⟨_, rfl⟩
          have f7 : IntKind.i64.wrap ((Q : Int) + (SZ : Int)) = (R : Int) := by
            have := hZl.out
            rw [show (Q : Int) + (SZ : Int) = (R : Int) by omega, IntKind.wrap_i64]; omega
          by_cases hsh : u.length < SZ
          · have i3 : (b.length : Int) < (R : Int) := by omega
            have hE := Lib.hid (hbad.out (by rw [hnx.out, if_pos hsh]))
            clear hnx hbad hbad2 hgood hsh hR hdr
            go_wp2
            exact hQ0.out _ _ (Ret.mk ⟨_, by rw [hE.out.1], by rw [hE.out.2]; exact OwnRs.nil _ _, ek.trans e4⟩)
          · have i3 : ¬ (b.length : Int) < (R : Int) := by omega
            have hnx2 := Lib.hid (hnx.out.trans (if_neg hsh))
            have hUt := hUbh.out.kinit SZ (by omega)
            obtain ⟨V, hV⟩ : ∃ V, V = u.take SZ := ⟨_, rfl⟩
            rw [← hV] at hUt hnx2
            have hVl : V.length ≤ 70000 := by rw [hV, List.length_take]; have := hZl.out; omega
            have hKl : K.length ≤ 100000 := by
              have h1 := one_next hnx2.out
              have h2 := congrArg List.length h1
              rw [List.length_append, one_length, List.length_cons] at h2
              show (⟨K, V, G⟩ : Ch).k.length ≤ 100000
              omega
            have hfit : chF ⟨K, V, G⟩ := ⟨by unfold fit; show K.length ≤ _; omega, by unfold fit; show V.length ≤ _; omega⟩
            have hdR : b.drop R = u.drop SZ := by rw [hR, ← List.drop_drop, hdr.out]
            rw [← hdR] at hnx2
            have hgd := Lib.hid (hgood.out _ _ hnx2.out)
            have hbd := Lib.hid (hbad2.out _ _ hnx2.out)
            have k1 : (0 : Int) ≤ (Q : Int) := by omega
            have k2 : (Q : Int) ≤ (R : Int) := by omega
            have k3 : (R : Int) ≤ (cap : Int) := by omega
            have k4 : R - Q = SZ := by omega
            have hRb := Lib.hid (show P < R ∧ R ≤ b.length ∧ pre.length + 1 ≤ R from by have := hQP.out; omega)
            have hRi := Lib.hid (fun W => refRight_any ⟨K, V, G⟩ W hfit)
            have cB : W4.cell? ⟨B, 1, none⟩ = some (.string (str [])) := cell_at hb4 1 rfl
            have fB : W4.frozen? ⟨B, 1, none⟩ = false := by simp [World.frozen?, hb4]
            have hb5 := Lib.hid (setCell_row W4 B 1 _ _ _ (.string (str V)) hb4)
            have e5 := Lib.hid ((e4.cellSet hBk.out 1 (.string (str V))))
            simp only [List.setIfInBounds_toArray, List.set_cons_zero, List.set_cons_succ] at hb5
            have hcvt := conv_bytes (hUt.ext (ek.trans e4))
            have hal : ∀ x, chc x = chc x := fun _ => rfl
            obtain ⟨ao, co, rfl⟩ := ho.out.shapeN
            clear hnx hbad hbad2 hgood hsh hR hdr hUt hV hVl hKl hdR hnx2 hb4 hUbh hcap hrl hul hal
            cases hrc : rightC ⟨K, V, G⟩
            · have hE := Lib.hid (hbd.out hrc)
              rw [hrc] at hRi
              clear hrc hgd hbd
              by_cases hcq : cap = Q
              · rw [if_pos hcq] at hcvt
                subst hcq
                simp only [Nat.sub_self] at hcvt
                go_wp2_with (first
                  | (refine wpList_load_row rfl 26 _ rfl B rfl 26 #[.string (str K), .string (str V), .bool G] (0, 0) _ hb5.out Tryd.underlying26 rfl info_ch ?_)
                  | (go_at_call 34; refine (hRi.out _).mono ?_; rintro e w6 ⟨rfl, e6⟩))
                exact hQ0.out _ _ (Ret.mk ⟨_, by rw [hE.out.1]; rfl, by rw [hE.out.2]; exact OwnRs.nil _ _, (ek.trans e5.out).trans e6⟩)
              · rw [if_neg hcq, Option.map_some, Addr.add_lit] at hcvt
                go_wp2_with (first
                  | (refine wpList_load_row rfl 26 _ rfl B rfl 26 #[.string (str K), .string (str V), .bool G] (0, 0) _ hb5.out Tryd.underlying26 rfl info_ch ?_)
                  | (go_at_call 34; refine (hRi.out _).mono ?_; rintro e w6 ⟨rfl, e6⟩))
                exact hQ0.out _ _ (Ret.mk ⟨_, by rw [hE.out.1]; rfl, by rw [hE.out.2]; exact OwnRs.nil _ _, (ek.trans e5.out).trans e6⟩)
            · have hgd2 := Lib.hid (hgd.out hrc)
              rw [hrc] at hRi
              clear hrc hgd hbd
              by_cases hcq : cap = Q
              · rw [if_pos hcq] at hcvt
                subst hcq
                simp only [Nat.sub_self] at hcvt
                go_wp2_with (first
                  | (refine wpList_load_row rfl 26 _ rfl B rfl 26 #[.string (str K), .string (str V), .bool G] (0, 0) _ hb5.out Tryd.underlying26 rfl info_ch ?_)
                  | (refine wpList_load_row rfl 26 _ rfl B rfl 26 #[.string (str K), .string (str V), .bool G] (0, 0) _ hb6 Tryd.underlying26 rfl info_ch ?_)
                  | (go_at_call 34; refine (hRi.out _).mono ?_; rintro e w6 ⟨rfl, e6⟩; have hb6 := e6.heap hb5.out)
                  | (at_builtin; refine wpList_appendR Tryd.underlying22 info_chz rfl (by decide) (by decide) chc_len chc_one (by decide) rfl (.tmp 82) (.tmp 84) rfl (fun k => w.heap.size ≤ k) (.slice ao pre.length co) pre rfl (((ho.out.ext e5.out).ext e6).ext ((Ext.refl w6).alloc _)) (.slice (some ⟨w6.heap.size, 0, none⟩) 1 1) [⟨K, V, G⟩] rfl (Rs.one rfl rfl rfl hfit) (by have := hRb.out; simp; omega) ?_; intro v7 w7 o7 g7))
                have e6' := (ek.trans e5.out).trans e6
                have e7' := e6'.alloc (.cells #[.string (str K), .string (str V), .bool G] 26)
                have e7 := e7'.chg g7 fun _ h => h
                go_roundw
                case rel => exact ⟨_, pre ++ [⟨K, V, G⟩], hRb.out.2.1, rfl, hgd2, Lib.hid (o7.mono fun j h => h.elim id fun h => Nat.le_trans e7'.size h), by have := hRb.out; simp; omega, e7⟩
                case measure => have := hRb.out; simp [intOf]; omega
              · rw [if_neg hcq, Option.map_some, Addr.add_lit] at hcvt
                go_wp2_with (first
                  | (refine wpList_load_row rfl 26 _ rfl B rfl 26 #[.string (str K), .string (str V), .bool G] (0, 0) _ hb5.out Tryd.underlying26 rfl info_ch ?_)
                  | (refine wpList_load_row rfl 26 _ rfl B rfl 26 #[.string (str K), .string (str V), .bool G] (0, 0) _ hb6 Tryd.underlying26 rfl info_ch ?_)
                  | (go_at_call 34; refine (hRi.out _).mono ?_; rintro e w6 ⟨rfl, e6⟩; have hb6 := e6.heap hb5.out)
                  | (at_builtin; refine wpList_appendR Tryd.underlying22 info_chz rfl (by decide) (by decide) chc_len chc_one (by decide) rfl (.tmp 82) (.tmp 84) rfl (fun k => w.heap.size ≤ k) (.slice ao pre.length co) pre rfl (((ho.out.ext e5.out).ext e6).ext ((Ext.refl w6).alloc _)) (.slice (some ⟨w6.heap.size, 0, none⟩) 1 1) [⟨K, V, G⟩] rfl (Rs.one rfl rfl rfl hfit) (by have := hRb.out; simp; omega) ?_; intro v7 w7 o7 g7))
                have e6' := (ek.trans e5.out).trans e6
                have e7' := e6'.alloc (.cells #[.string (str K), .string (str V), .bool G] 26)
                have e7 := e7'.chg g7 fun _ h => h
                go_roundw
                case rel => exact ⟨_, pre ++ [⟨K, V, G⟩], hRb.out.2.1, rfl, hgd2, Lib.hid (o7.mono fun j h => h.elim id fun h => Nat.le_trans e7'.size h), by have := hRb.out; simp; omega, e7⟩
                case measure => have := hRb.out; simp [intOf]; omega
end Go.Proofs.YtkdmljijgfejpaaDoor


namespace Go.Proofs.YtkdmljijgfejpaaDoor
set_option linter.unusedVariables false
set_option linter.unusedSimpArgs false
open Go.RowKit Kv

noncomputable def eqB {α : Type} (a b : α) : Bool := @decide (a = b) (Classical.propDecidable _)
theorem eqB_true {α : Type} {a b : α} : eqB a b = true ↔ a = b := by unfold eqB; exact @decide_eq_true_iff (a = b) (Classical.propDecidable _)
theorem eqB_false {α : Type} {a b : α} : eqB a b = false ↔ a ≠ b := by
  cases h : eqB a b
  · exact ⟨fun _ e => (by rw [eqB_true.2 e] at h; cases h), fun _ => rfl⟩
  · exact ⟨fun h' => (by cases h'), fun e => absurd (eqB_true.1 h) e⟩
theorem eqB_len {α : Type} {l m : List α} (h : l.length ≠ m.length) : eqB l m = false := eqB_false.2 fun e => h (by rw [e])
theorem eqB_no {α : Type} {l m : List α} {k : Nat} {x y : α} (hx : l[k]? = some x) (hy : m[k]? = some y) (h : eqB x y = false) : eqB l m = false := eqB_false.2 fun e => by
  rw [e, hy] at hx
  cases hx
  exact eqB_false.1 h rfl
theorem eqB_all {α : Type} {l m : List α} (hl : l.length = m.length) (h : ∀ j x y, j < l.length → l[j]? = some x → m[j]? = some y → eqB x y = true) : eqB l m = true := eqB_true.2 (by
  apply List.ext_getElem?
  intro j
  by_cases hj : j < l.length
  · have hx : l[j]? = some l[j] := List.getElem?_eq_getElem hj
    have hy : m[j]? = some (m[j]'(by omega)) := List.getElem?_eq_getElem (by omega)
    rw [hx, hy, eqB_true.1 (h j _ _ hj hx hy)]
  · rw [List.getElem?_eq_none (by omega), List.getElem?_eq_none (by omega)])
theorem eqB_self {α : Type} (a : α) : eqB a a = true := eqB_true.2 rfl
section
variable (w : World)
theorem kpart_str (cs : Array Value) (i : Nat) (x : Value) (h : cs[i]? = some x) : (part 9 cs i).run Tryd.prog w = .ok x w := by
  simp [part, isAgg, run_underlying Tryd.underlying9, h]
theorem kpart_bool (cs : Array Value) (i : Nat) (x : Value) (h : cs[i]? = some x) : (part 4 cs i).run Tryd.prog w = .ok x w := by
  simp [part, isAgg, run_underlying Tryd.underlying4, h]
theorem keq_step {f : Field} {fs : List Field} {xs ys : Array Value} {x y : Value} {r t : Bool} (hn : (f.name == "_") = false) (hx : (part f.type xs f.offset).run Tryd.prog w = .ok x w) (hy : (part f.type ys f.offset).run Tryd.prog w = .ok y w)
    (hr : (Op.equalIn 9999 f.type x y).run Tryd.prog w = .ok r w) (ht : (Op.eqFields 9999 xs ys fs).run Tryd.prog w = .ok t w) : (Op.eqFields 9999 xs ys (f :: fs)).run Tryd.prog w = .ok (r && t) w := by
  have hn2 : f.name ≠ "_" := by simpa using hn
  rw [Op.eqFields, if_pos hn2]
  simp only [Sem.run_bind, hx, hy, hr, Result.andThen_ok, Sem.run_ite]
  cases r
  · simp
  · simp [ht]
theorem keq_str (a b : List UInt8) : (Op.equalIn 9999 9 (.string (str a)) (.string (str b))).run Tryd.prog w = .ok (seq a b) w := by
  rw [run_equalIn_string w _ _ _ _ Tryd.underlying9, toList_seq]
theorem Ext.drewMM (w : World) (n : Nat) : Ext w (w.drewN n) := Ext.drewM w n
theorem krange_drew {b i : Nat} {cs : List Value} (h : w.rangeAt b i cs) : ∀ W, (∃ n, W = w.drewN n) → W.rangeAt b i cs := fun W ⟨n, e⟩ => by
  subst e
  exact fun j u hu => (Ext.drewM w n).cell (h j u hu)
end

theorem fields_ch : (Tryd.prog.fieldsOf 26).toList.map (fun f => (f.type, f.offset, f.name == "_")) = [(9, 0, false), (9, 1, false), (4, 2, false)] := by kernel_rfl
theorem eqf_ch (a b : Ch) (w : World) : (Op.eqFields 9999 #[.string (str a.k), .string (str a.v), .bool a.g] #[.string (str b.k), .string (str b.v), .bool b.g] (Tryd.prog.fieldsOf 26).toList).run Tryd.prog w = .ok (seq a.k b.k && (seq a.v b.v && ((a.g == b.g) && true))) w := by
  have hf := fields_ch
  obtain ⟨f0, s1, e, h0, hf⟩ := List.map_eq_cons_iff.1 hf
  rw [e]; clear e
  obtain ⟨f1, s2, rfl, h1, hf⟩ := List.map_eq_cons_iff.1 hf
  obtain ⟨f2, s3, rfl, h2, hf⟩ := List.map_eq_cons_iff.1 hf
  obtain rfl := List.map_eq_nil_iff.1 hf
  simp only [Prod.mk.injEq] at h0 h1 h2
  refine keq_step w h0.2.2 (by rw [h0.1, h0.2.1]; exact kpart_str w _ _ _ rfl) (by rw [h0.1, h0.2.1]; exact kpart_str w _ _ _ rfl) (by rw [h0.1]; exact keq_str w _ _) ?_
  refine keq_step w h1.2.2 (by rw [h1.1, h1.2.1]; exact kpart_str w _ _ _ rfl) (by rw [h1.1, h1.2.1]; exact kpart_str w _ _ _ rfl) (by rw [h1.1]; exact keq_str w _ _) ?_
  refine keq_step w h2.2.2 (by rw [h2.1, h2.2.1]; exact kpart_bool w _ _ _ rfl) (by rw [h2.1, h2.2.1]; exact kpart_bool w _ _ _ rfl) (by rw [h2.1]; exact run_equalIn_bool' w _ _ _ _ Tryd.underlying4) ?_
  rfl
theorem eqv_ch (a b : Ch) : (seq a.k b.k && (seq a.v b.v && ((a.g == b.g) && true))) = eqB a b := by
  rw [Bool.eq_iff_iff, eqB_true]
  obtain ⟨k, v, g⟩ := a
  obtain ⟨k', v', g'⟩ := b
  unfold seq
  simp
set_option maxRecDepth 20000 in
theorem neq_ch (a b : Ch) (w : World) : (binOp .neq 26 (.agg #[.string (str a.k), .string (str a.v), .bool a.g]) (.agg #[.string (str b.k), .string (str b.v), .bool b.g])).run Tryd.prog w = .ok (.bool (!eqB a b)) w := by
  rw [run_neq_struct, run_equalIn_struct w 9999 26 _ _ Tryd.underlying26 (by kernel_rfl), eqf_ch, eqv_ch]; rfl
/-- in a region that draws and only reads: a struct out of the middle of a row -/
theorem quiet_load_ch {ops : Array Oper} {C : World → Prop} {Q : Act → Prop} {a : Act} {o : Oper} {rest : List Oper} (hw : Region.wanted o (yielded ops a.tmps) = true) (x : Operand) (ho : o.op = .load 26 x) (b i : Nat)
    (hx : a.eval x = .pointer (some ⟨b, i, none⟩)) (r : Ch) (hC : ∀ w, C w → w.rangeAt b i (chc r)) (h : wpQuiet Tryd.prog ops C Q rest (a.put o.dst (.agg #[.string (str r.k), .string (str r.v), .bool r.g]))) : wpQuiet Tryd.prog ops C Q (o :: rest) a :=
  BigFrame.wpQuiet_want hw fun _ hK => ⟨_, fun w hw => by
    unfold Oper.quietAt execOp
    simp only [ho, hx, Instr.loadAt, Instr.sureAddr, Sem.run_bind, Sem.run_pure, Result.andThen_ok, run_loadVar_mid w b i 26 (chc r) _ (hC w hw) Tryd.underlying26 rfl info_ch]
    exact ⟨rfl, rfl⟩, hK _ h⟩
set_option maxRecDepth 20000 in
set_option maxHeartbeats 1000000 in
theorem refChs_any (v u : Value) (l m : List Ch) (w : World) (hb : Rs 3 chc chF w v l) (hc : Rs 3 chc chF w u m) :
    Calls Tryd.prog 13 #[v, u] w fun e w' => e = .returned (.bool (eqB l m)) ∧ Ext w w' := by
  have e0 := Ext.refl w
  obtain ⟨a, cap, rfl, hlen, hb⟩ := hb.shape
  obtain ⟨b, cap', rfl, hlen2, hc⟩ := hc.shape
  by_cases hne : l.length = m.length
  · obtain ⟨L, hL⟩ : ∃ L, L = l.length := ⟨_, rfl⟩
    have hL2 : L = m.length := by omega
    rw [← hL] at hlen ⊢
    rw [← hL2] at hlen2 ⊢
    have hbh := Lib.hid hb
    have hch := Lib.hid hc
    clear hb hc hne
    have hLh := Lib.hid hL
    have hL2h := Lib.hid hL2
    clear hL hL2
    go_enter Tryd.func13, Tryd.ntmps13
    go_wp2
    go_loopw [5] (fun i wr => ∃ k : Nat, k ≤ L ∧ i = .int .i64 k ∧ RowKit.Hid (∀ j x y, j < k → l[j]? = some x → m[j]? = some y → eqB x y = true) ∧ Ext w wr) (fun i _ => L - (intOf i).toNat)
    case atStart => exact ⟨0, Nat.zero_le _, rfl, Lib.hid (fun j x y hj => by omega), e0⟩
    case round =>
      obtain ⟨k, hk, rfl, hn, ek⟩ := hrel
      by_cases hlt : k < L
      · obtain ⟨x, hx⟩ : ∃ x, l[k]? = some x := ⟨_, List.getElem?_eq_getElem (by have := hLh.out; omega : k < l.length)⟩
        obtain ⟨y, hy⟩ : ∃ y, m[k]? = some y := ⟨_, List.getElem?_eq_getElem (by have := hL2h.out; omega : k < m.length)⟩
        obtain ⟨g, o, rfl, hr, -⟩ := hbh.out k x hx
        obtain ⟨g2, o2, rfl, hr2, -⟩ := hch.out k y hy
        have hki : (k : Int) < (L : Int) := by omega
        have hw : IntKind.i64.wrap ((k : Int) + 1) = (k : Int) + 1 := by rw [IntKind.wrap_i64]; omega
        have l1 := krange_drew wr (fun i u hu => ek.cell (hr i u hu) : wr.rangeAt g (o + k * 3) (chc x))
        have l2 := krange_drew wr (fun i u hu => ek.cell (hr2 i u hu) : wr.rangeAt g2 (o2 + k * 3) (chc y))
        have hq := fun W => neq_ch x y W
        have hno := Lib.hid (eqB_no hx hy)
        have hnx := Lib.hid (fun h => (fun j x' y' hj hx' hy' => if e : j = k then by subst e; rw [hx] at hx'; rw [hy] at hy'; cases hx'; cases hy'; exact h else hn.out j x' y' (by omega) hx' hy') : eqB x y = true → ∀ j x y, j < k + 1 → l[j]? = some x → m[j]? = some y → eqB x y = true)
        clear hr hr2 hn hx hy e0
        go_upto_region 6 with fail
        refine wp_region_quiet_lit (by kernel_rfl) (by kernel_rfl) ?_
        repeat (first | (quiet_step (fail)) | (refine quiet_load_ch (by rfl) _ rfl _ _ rfl x l1 ?_) | (refine quiet_load_ch (by rfl) _ rfl _ _ rfl y l2 ?_))
        refine wpQuiet_nil ?_
        rintro _ ⟨nq, rfl⟩
        have e1 := ek.trans (Ext.drewM wr nq)
        generalize wr.drewN nq = W1 at *
        clear l1 l2 hq
        cases hs : eqB x y
        · have hno2 := Lib.hid (hno.out hs)
          clear hno hnx
          go_wp2
          go_ret
          exact ⟨by rw [hno2.out]; rfl, e1⟩
        · have hnx2 := Lib.hid (hnx.out hs)
          clear hno hnx
          go_wp2
          go_roundw
          case rel => exact ⟨k + 1, by omega, by go_num, Lib.hid hnx2.out, e1⟩
          case measure => simp [intOf]; omega
      · obtain rfl : k = L := by omega
        have hf := Lib.hid (eqB_all (l := l) (m := m) (by rw [← hLh.out, ← hL2h.out]) (fun j x y hj => hn.out j x y (by rw [hLh.out]; exact hj)))
        clear hn
        go_wp2
        go_ret
        exact ⟨by rw [hf.out]; rfl, ek⟩
  · have hfl : ((l.length : Int) != (m.length : Int)) = true := by rw [bne_iff_ne]; omega
    have hf := Lib.hid (eqB_len hne)
    clear hb hc hne
    go_enter Tryd.func13, Tryd.ntmps13
    go_wp2
    go_ret
    exact ⟨by rw [hf.out]; rfl, e0⟩

theorem fields_pr : (Tryd.prog.fieldsOf 86).toList.map (fun f => (f.type, f.offset, f.name == "_")) = [(9, 0, false), (9, 1, false)] := by kernel_rfl
theorem eqf_pr (a b : Pr) (w : World) : (Op.eqFields 9999 #[.string (str a.n), .string (str a.v)] #[.string (str b.n), .string (str b.v)] (Tryd.prog.fieldsOf 86).toList).run Tryd.prog w = .ok (seq a.n b.n && (seq a.v b.v && true)) w := by
  have hf := fields_pr
  obtain ⟨f0, s1, e, h0, hf⟩ := List.map_eq_cons_iff.1 hf
  rw [e]; clear e
  obtain ⟨f1, s2, rfl, h1, hf⟩ := List.map_eq_cons_iff.1 hf
  obtain rfl := List.map_eq_nil_iff.1 hf
  simp only [Prod.mk.injEq] at h0 h1
  refine keq_step w h0.2.2 (by rw [h0.1, h0.2.1]; exact kpart_str w _ _ _ rfl) (by rw [h0.1, h0.2.1]; exact kpart_str w _ _ _ rfl) (by rw [h0.1]; exact keq_str w _ _) ?_
  refine keq_step w h1.2.2 (by rw [h1.1, h1.2.1]; exact kpart_str w _ _ _ rfl) (by rw [h1.1, h1.2.1]; exact kpart_str w _ _ _ rfl) (by rw [h1.1]; exact keq_str w _ _) ?_
  rfl
theorem eqv_pr (a b : Pr) : (seq a.n b.n && (seq a.v b.v && true)) = eqB a b := by
  rw [Bool.eq_iff_iff, eqB_true]
  obtain ⟨n, v⟩ := a
  obtain ⟨n', v'⟩ := b
  unfold seq
  simp
set_option maxRecDepth 20000 in
theorem neq_pr (a b : Pr) (w : World) : (binOp .neq 86 (.agg #[.string (str a.n), .string (str a.v)]) (.agg #[.string (str b.n), .string (str b.v)])).run Tryd.prog w = .ok (.bool (!eqB a b)) w := by
  rw [run_neq_struct, run_equalIn_struct w 9999 86 _ _ Tryd.underlying86 (by kernel_rfl), eqf_pr, eqv_pr]; rfl
/-- in a region that draws and only reads: a struct out of the middle of a row -/
theorem quiet_load_pr {ops : Array Oper} {C : World → Prop} {Q : Act → Prop} {a : Act} {o : Oper} {rest : List Oper} (hw : Region.wanted o (yielded ops a.tmps) = true) (x : Operand) (ho : o.op = .load 86 x) (b i : Nat)
    (hx : a.eval x = .pointer (some ⟨b, i, none⟩)) (r : Pr) (hC : ∀ w, C w → w.rangeAt b i (prc r)) (h : wpQuiet Tryd.prog ops C Q rest (a.put o.dst (.agg #[.string (str r.n), .string (str r.v)]))) : wpQuiet Tryd.prog ops C Q (o :: rest) a :=
  BigFrame.wpQuiet_want hw fun _ hK => ⟨_, fun w hw => by
    unfold Oper.quietAt execOp
    simp only [ho, hx, Instr.loadAt, Instr.sureAddr, Sem.run_bind, Sem.run_pure, Result.andThen_ok, run_loadVar_mid w b i 86 (prc r) _ (hC w hw) Tryd.underlying86 rfl info_pr]
    exact ⟨rfl, rfl⟩, hK _ h⟩
set_option maxRecDepth 20000 in
set_option maxHeartbeats 1000000 in
theorem refPrs_any (v u : Value) (l m : List Pr) (w : World) (hb : Rs 2 prc prF w v l) (hc : Rs 2 prc prF w u m) :
    Calls Tryd.prog 20 #[v, u] w fun e w' => e = .returned (.bool (eqB l m)) ∧ Ext w w' := by
  have e0 := Ext.refl w
  obtain ⟨a, cap, rfl, hlen, hb⟩ := hb.shape
  obtain ⟨b, cap', rfl, hlen2, hc⟩ := hc.shape
  by_cases hne : l.length = m.length
  · obtain ⟨L, hL⟩ : ∃ L, L = l.length := ⟨_, rfl⟩
    have hL2 : L = m.length := by omega
    rw [← hL] at hlen ⊢
    rw [← hL2] at hlen2 ⊢
    have hbh := Lib.hid hb
    have hch := Lib.hid hc
    clear hb hc hne
    have hLh := Lib.hid hL
    have hL2h := Lib.hid hL2
    clear hL hL2
    go_enter Tryd.func20, Tryd.ntmps20
    go_wp2
    go_loopw [5] (fun i wr => ∃ k : Nat, k ≤ L ∧ i = .int .i64 k ∧ RowKit.Hid (∀ j x y, j < k → l[j]? = some x → m[j]? = some y → eqB x y = true) ∧ Ext w wr) (fun i _ => L - (intOf i).toNat)
    case atStart => exact ⟨0, Nat.zero_le _, rfl, Lib.hid (fun j x y hj => by omega), e0⟩
    case round =>
      obtain ⟨k, hk, rfl, hn, ek⟩ := hrel
      by_cases hlt : k < L
      · obtain ⟨x, hx⟩ : ∃ x, l[k]? = some x := ⟨_, List.getElem?_eq_getElem (by have := hLh.out; omega : k < l.length)⟩
        obtain ⟨y, hy⟩ : ∃ y, m[k]? = some y := ⟨_, List.getElem?_eq_getElem (by have := hL2h.out; omega : k < m.length)⟩
        obtain ⟨g, o, rfl, hr, -⟩ := hbh.out k x hx
        obtain ⟨g2, o2, rfl, hr2, -⟩ := hch.out k y hy
        have hki : (k : Int) < (L : Int) := by omega
        have hw : IntKind.i64.wrap ((k : Int) + 1) = (k : Int) + 1 := by rw [IntKind.wrap_i64]; omega
        have l1 := krange_drew wr (fun i u hu => ek.cell (hr i u hu) : wr.rangeAt g (o + k * 2) (prc x))
        have l2 := krange_drew wr (fun i u hu => ek.cell (hr2 i u hu) : wr.rangeAt g2 (o2 + k * 2) (prc y))
        have hq := fun W => neq_pr x y W
        have hno := Lib.hid (eqB_no hx hy)
        have hnx := Lib.hid (fun h => (fun j x' y' hj hx' hy' => if e : j = k then by subst e; rw [hx] at hx'; rw [hy] at hy'; cases hx'; cases hy'; exact h else hn.out j x' y' (by omega) hx' hy') : eqB x y = true → ∀ j x y, j < k + 1 → l[j]? = some x → m[j]? = some y → eqB x y = true)
        clear hr hr2 hn hx hy e0
        go_upto_region 6 with fail
        refine wp_region_quiet_lit (by kernel_rfl) (by kernel_rfl) ?_
        repeat (first | (quiet_step (fail)) | (refine quiet_load_pr (by rfl) _ rfl _ _ rfl x l1 ?_) | (refine quiet_load_pr (by rfl) _ rfl _ _ rfl y l2 ?_))
        refine wpQuiet_nil ?_
        rintro _ ⟨nq, rfl⟩
        have e1 := ek.trans (Ext.drewM wr nq)
        generalize wr.drewN nq = W1 at *
        clear l1 l2 hq
        cases hs : eqB x y
        · have hno2 := Lib.hid (hno.out hs)
          clear hno hnx
          go_wp2
          go_ret
          exact ⟨by rw [hno2.out]; rfl, e1⟩
        · have hnx2 := Lib.hid (hnx.out hs)
          clear hno hnx
          go_wp2
          go_roundw
          case rel => exact ⟨k + 1, by omega, by go_num, Lib.hid hnx2.out, e1⟩
          case measure => simp [intOf]; omega
      · obtain rfl : k = L := by omega
        have hf := Lib.hid (eqB_all (l := l) (m := m) (by rw [← hLh.out, ← hL2h.out]) (fun j x y hj => hn.out j x y (by rw [hLh.out]; exact hj)))
        clear hn
        go_wp2
        go_ret
        exact ⟨by rw [hf.out]; rfl, ek⟩
  · have hfl : ((l.length : Int) != (m.length : Int)) = true := by rw [bne_iff_ne]; omega
    have hf := Lib.hid (eqB_len hne)
    clear hb hc hne
    go_enter Tryd.func20, Tryd.ntmps20
    go_wp2
    go_ret
    exact ⟨by rw [hf.out]; rfl, e0⟩

/-! ### of a size that is looked at -/
def okF (c : Ch) : Bool := !(decide (80 < c.k.length) || (decide (60 < c.v.length) && decide (c.v.length ≤ 300)))
def fewC (l : List Ch) : Bool := l.all okF && decide (l.length ≤ 12)
theorem fewC_no {l : List Ch} {j : Nat} (hj : j < l.length) (h : okF l[j] = false) : fewC l = false := by
  unfold fewC
  have : l.all okF = false := by rw [List.all_eq_false]; exact ⟨l[j], List.getElem_mem hj, by simp [h]⟩
  rw [this]; rfl
set_option maxRecDepth 20000 in
set_option maxHeartbeats 1000000 in
theorem refFew_any (v : Value) (l : List Ch) (w : World) (h : Chs w v l) :
    Calls Tryd.prog 15 #[v] w fun e w' => e = .returned (.bool (fewC l)) ∧ w = w' := by
  obtain ⟨a, cap, rfl, hlm, hget⟩ := h.shape
  have hgh := Lib.hid hget
  clear h hget
  go_enter Tryd.func15, Tryd.ntmps15
  go_wp2
  go_loopw [3] (fun i wr => ∃ k : Nat, k ≤ l.length ∧ i = .int .i64 (k : Int) ∧ RowKit.Hid ((l.take k).all okF = true) ∧ wr = w) (fun i _ => l.length - (intOf i).toNat)
  case atStart => exact ⟨0, Nat.zero_le _, rfl, Lib.hid rfl, rfl⟩
  case round =>
    obtain ⟨k, hk, rfl, ho, rfl⟩ := hrel
    by_cases hlt : k < l.length
    · obtain ⟨g, o, rfl, hr, hf⟩ := hgh.out k l[k] (List.getElem?_eq_getElem hlt)
      have hki : (k : Int) < (l.length : Int) := by omega
      have hw : IntKind.i64.wrap ((k : Int) + 1) = (k : Int) + 1 := by rw [IntKind.wrap_i64]; omega
      have c0 : wr.cell? ⟨g, o + k * 3, none⟩ = some (.string (str l[k].k)) := hr 0 _ rfl
      have c1 : wr.cell? ⟨g, o + k * 3 + 1, none⟩ = some (.string (str l[k].v)) := hr 1 _ rfl
      have hno := Lib.hid (fun h => fewC_no hlt h)
      have hnx := Lib.hid (fun h => (by rw [List.take_add_one, List.getElem?_eq_getElem hlt, List.all_append, ho.out]; simp [h] : (l.take (k + 1)).all okF = true) : okF l[k] = true → _)
      generalize l[k] = x at *
      have hO : RowKit.Hid (okF x = !(decide (80 < x.k.length) || (decide (60 < x.v.length) && decide (x.v.length ≤ 300)))) := Lib.hid rfl
      clear hr ho
      by_cases h1 : 80 < x.k.length
      · have i1 : (80 : Int) < (x.k.length : Int) := by omega
        have hE := Lib.hid (hno.out (by rw [hO.out]; simp [h1]))
        clear hno hnx hO h1
        go_wp2
        go_ret
        exact ⟨by rw [hE.out]; rfl, rfl⟩
      · have i1 : ¬ (80 : Int) < (x.k.length : Int) := by omega
        by_cases h2 : 60 < x.v.length
        · have i2 : (60 : Int) < (x.v.length : Int) := by omega
          by_cases h3 : x.v.length ≤ 300
          · have i3 : (x.v.length : Int) ≤ 300 := by omega
            have hE := Lib.hid (hno.out (by rw [hO.out]; simp [h1, h2, h3]))
            clear hno hnx hO h1 h2 h3
            go_wp2
            go_ret
            exact ⟨by rw [hE.out]; rfl, rfl⟩
          · have i3 : ¬ (x.v.length : Int) ≤ 300 := by omega
            have hE := Lib.hid (hnx.out (by rw [hO.out]; simp [h1, h3]))
            clear hno hnx hO h1 h2 h3
            go_wp2
            go_roundw
            case rel => exact ⟨k + 1, by omega, by go_num, hE, by trivial⟩
            case measure => simp [intOf]; omega
        · have i2 : ¬ (60 : Int) < (x.v.length : Int) := by omega
          have hE := Lib.hid (hnx.out (by rw [hO.out]; simp [h1, h2]))
          clear hno hnx hO h1 h2
          go_wp2
          go_roundw
          case rel => exact ⟨k + 1, by omega, by go_num, hE, by trivial⟩
          case measure => simp [intOf]; omega
    · obtain rfl : k = l.length := by omega
      rw [List.take_length] at ho
      have hE := Lib.hid (show fewC l = decide (l.length ≤ 12) from by unfold fewC; rw [ho.out]; rfl)
      by_cases h12 : l.length ≤ 12
      · have i1 : (l.length : Int) ≤ 12 := by omega
        have hE2 := Lib.hid (hE.out.trans (decide_eq_true h12))
        clear hE h12 ho
        go_wp2
        go_ret
        exact ⟨by rw [hE2.out]; rfl, rfl⟩
      · have i1 : ¬ (l.length : Int) ≤ 12 := by omega
        have hE2 := Lib.hid (hE.out.trans (decide_eq_false h12))
        clear hE h12 ho
        go_wp2
        go_ret
        exact ⟨by rw [hE2.out]; rfl, rfl⟩
end Go.Proofs.YtkdmljijgfejpaaDoor


namespace Go.Proofs.YtkdmljijgfejpaaDoor
set_option linter.unusedVariables false
set_option linter.unusedSimpArgs false
open Go.RowKit Kv

def slt (a b : List UInt8) : Bool := decide (a < b)
theorem bytes_less : ∀ (x y : List UInt8), Op.bytesLess x y = decide (x < y)
  | [], [] => by simp [Op.bytesLess]
  | _ :: _, [] => by simp [Op.bytesLess]
  | [], _ :: _ => by simp [Op.bytesLess]
  | a :: x, b :: y => by
    rw [Op.bytesLess, bytes_less x y]
    by_cases h : a < b
    · simp [h, List.cons_lt_cons_iff]
    · by_cases he : a = b
      · subst he; simp [List.cons_lt_cons_iff]
      · simp [h, he, List.cons_lt_cons_iff]
@[go_sem] theorem less_slt (a b : List UInt8) : Op.bytesLess (str a).toList (str b).toList = slt a b := by rw [bytes_less, toList_str, toList_str]; rfl
/-- what the document's Put has put, behind so many pairs -/
def putA (c : Ch) (d : Bool) : List Pr → List Pr
  | [] => []
  | p :: r => (if d = false ∧ ¬ p.n < c.k then [⟨c.k, c.v⟩] else []) ++ (if p.n = c.k then [] else [p]) ++ putA c (d || decide (¬ p.n < c.k)) r
def doneA (c : Ch) (d : Bool) : List Pr → Bool
  | [] => d
  | p :: r => doneA c (d || decide (¬ p.n < c.k)) r
theorem putA_end (c : Ch) : ∀ (l : List Pr) (d : Bool), putG c d l = putA c d l ++ (if doneA c d l then [] else [⟨c.k, c.v⟩])
  | [], d => by unfold putG putA doneA; rfl
  | p :: r, d => by
    unfold putG putA doneA
    rw [putA_end c r]; simp only [List.append_assoc]
theorem putA_step (c : Ch) : ∀ (l : List Pr) (d : Bool) (p : Pr), putA c d (l ++ [p]) = putA c d l ++ ((if doneA c d l = false ∧ ¬ p.n < c.k then [⟨c.k, c.v⟩] else []) ++ (if p.n = c.k then [] else [p])) ∧ doneA c d (l ++ [p]) = (doneA c d l || decide (¬ p.n < c.k))
  | [], d, p => by
    refine ⟨?_, rfl⟩
    show (if d = false ∧ ¬ p.n < c.k then [⟨c.k, c.v⟩] else []) ++ (if p.n = c.k then [] else [p]) ++ putA c _ [] = _
    show _ ++ [] = _
    rw [List.append_nil]; rfl
  | x :: r, d, p => by
    obtain ⟨h1, h2⟩ := putA_step c r (d || decide (¬ x.n < c.k)) p
    refine ⟨?_, h2⟩
    show _ ++ putA c _ (r ++ [p]) = (_ ++ putA c _ r) ++ _
    rw [h1]; simp only [List.append_assoc]; rfl
theorem putA_len (c : Ch) : ∀ (l : List Pr) (d : Bool), (putA c d l).length ≤ 2 * l.length
  | [], _ => Nat.le_refl _
  | p :: r, d => by
    have ih := putA_len c r (d || decide (¬ p.n < c.k))
    unfold putA
    rw [List.length_append, List.length_append, List.length_cons]
    have h1 : (if d = false ∧ ¬ p.n < c.k then [⟨c.k, c.v⟩] else [] : List Pr).length ≤ 1 := by split <;> simp
    have h2 : (if p.n = c.k then [] else [p] : List Pr).length ≤ 1 := by split <;> simp
    omega
theorem prF_of (c : Ch) (h : chF c) : prF ⟨c.k, c.v⟩ := h
set_option maxRecDepth 20000 in
set_option maxHeartbeats 4000000 in
theorem refPut_any (v : Value) (l : List Pr) (c : Ch) (w : World) (h : Prs w v l) (hc : chF c) (hl : l.length ≤ 100000) (hs : Srt l) :
    Calls Tryd.prog 45 #[v, .agg #[.string (str c.k), .string (str c.v), .bool c.g]] w (Ret fun u w' => OwnP w' (fun j => w.heap.size ≤ j) u (put c l) ∧ Ext w w') := by
  have hput := Lib.hid ((putG_eq c hs).symm.trans (putA_end c l c.g))
  obtain ⟨a, cap, rfl, hlm, hget⟩ := h.shape
  have hgh := Lib.hid hget
  clear h hget hs
  obtain ⟨W1, hW1⟩ : ∃ W, W = w.alloc (.cells #[.string (str c.k), .string (str c.v), .bool c.g] 26) := ⟨_, rfl⟩
  obtain ⟨B, hB⟩ : ∃ B, B = w.heap.size := ⟨_, rfl⟩
  have e1 := Lib.hid (show Ext w W1 from by rw [hW1]; exact (Ext.refl w).alloc _)
  have hS := Lib.hid (show ∀ W, Ext W1 W → (W.cell? ⟨B, 0, none⟩ = some (.string (str c.k)) ∧ W.cell? ⟨B, 1, none⟩ = some (.string (str c.v)) ∧ W.cell? ⟨B, 2, none⟩ = some (.bool c.g)) from fun W e => by
    have hb0 : W1.heap[B]? = some (.cells #[.string (str c.k), .string (str c.v), .bool c.g] 26 (0, 0)) := by rw [hW1, hB]; exact heap_alloc_new w _
    exact ⟨cell_at (e.heap hb0) 0 rfl, cell_at (e.heap hb0) 1 rfl, cell_at (e.heap hb0) 2 rfl⟩)
  obtain ⟨K, V, G⟩ := c
  dsimp only at *
  go_enter Tryd.func45, Tryd.ntmps45
  go_upto_region 2 with fail
  rw [← hW1, ← hB]
  obtain ⟨-, -, c2⟩ := hS.out W1 (Ext.refl W1)
  have eW := Ext.refl W1
  clear hW1 hB
  go_wp2
  go_loopw [5, 6, 7] (fun out d i wr => ∃ k : Nat, k ≤ l.length ∧ i = .int .i64 (k : Int) ∧ RowKit.Hid (OwnP wr (fun j => W1.heap.size ≤ j) out (putA ⟨K, V, G⟩ G (l.take k))) ∧ (∃ D : Bool, d = .bool D ∧ RowKit.Hid (D = doneA ⟨K, V, G⟩ G (l.take k))) ∧ Ext W1 wr) (fun _ _ i _ => l.length - (intOf i).toNat)
  case atStart => exact ⟨0, Nat.zero_le _, rfl, Lib.hid (OwnRs.nil _ _), ⟨G, rfl, Lib.hid rfl⟩, eW⟩
  case round =>
    obtain ⟨k, hk, rfl, ho, ⟨D, rfl, hD⟩, ek⟩ := hrel
    clear c2 eW
    by_cases hlt : k < l.length
    · obtain ⟨g, o, rfl, hr, hf⟩ := hgh.out k l[k] (List.getElem?_eq_getElem hlt)
      have hki : (k : Int) < (l.length : Int) := by omega
      have hw : IntKind.i64.wrap ((k : Int) + 1) = (k : Int) + 1 := by rw [IntKind.wrap_i64]; omega
      obtain ⟨s1, s2⟩ := putA_step ⟨K, V, G⟩ (l.take k) G l[k]
      rw [show l.take k ++ [l[k]] = l.take (k + 1) from by rw [List.take_add_one, List.getElem?_eq_getElem hlt]; rfl, ← hD.out] at s1 s2
      have hs1 := Lib.hid s1
      have hs2 := Lib.hid s2
      have hpl := Lib.hid (putA_len ⟨K, V, G⟩ (l.take k) G)
      rw [List.length_take, Nat.min_eq_left (by omega)] at hpl
      have hrW := Lib.hid (show ∀ W, Ext W1 W → W.rangeAt g (o + k * 2) [.string (str l[k].n), .string (str l[k].v)] from fun W e j u hu => (e1.out.trans e).cell (hr j u hu))
      clear hr hD s1 s2
      generalize l[k] = x at *
      generalize putA ⟨K, V, G⟩ G (l.take k) = acc at *
      have c0 : wr.cell? ⟨g, o + k * 2, none⟩ = some (.string (str x.n)) := hrW.out wr ek 0 _ rfl
      obtain ⟨b0, b1, -⟩ := hS.out wr ek
      go_upto_region 6 with fail
      go_cut [27] (fun t wd => t = .bool (!D && !slt x.n K) ∧ Ext W1 wd ∧ Ext wr wd)
      case first =>
        cases D
        · go_quiet (fail)
          go_wp2
          go_meet
          exact ⟨rfl, ek.trans (Ext.drewM wr nq), Ext.drewM wr nq⟩
        · go_quiet (fail)
          go_wp2
          go_meet
          exact ⟨rfl, ek.trans (Ext.drewM wr nq), Ext.drewM wr nq⟩
      case rest =>
        obtain ⟨rfl, e2, er2⟩ := hcut
        obtain ⟨W2, rfl⟩ : ∃ W, W = wc := ⟨_, rfl⟩
        have ho2 := Lib.hid (ho.out.ext er2)
        obtain ⟨ao, co, rfl⟩ := ho.out.shapeN
        clear c0 b0 b1 er2 ho
        go_upto_if 27 with fail
        obtain ⟨acc2, hacc2⟩ : ∃ z, z = acc ++ (if D = false ∧ ¬ x.n < K then [⟨K, V⟩] else []) := ⟨_, rfl⟩
        have hs3 := Lib.hid (show putA ⟨K, V, G⟩ G (l.take (k + 1)) = acc2 ++ (if x.n = K then [] else [x]) from by rw [hs1.out, hacc2, List.append_assoc])
        have hpl2 := Lib.hid (show acc2.length ≤ 2 * k + 1 from by rw [hacc2, List.length_append]; have := hpl.out; have h2 : (if D = false ∧ ¬ x.n < K then [⟨K, V⟩] else [] : List Pr).length ≤ 1 := by split <;> simp
                                                                   omega)
        have ha2 := Lib.hid hacc2
        clear hacc2 hs1
        go_cut [5, 6] (fun out d wd => RowKit.Hid (OwnP wd (fun j => W1.heap.size ≤ j) out acc2) ∧ d = .bool (D || !slt x.n K) ∧ Ext W1 wd)
        case first =>
          cases hT : (!D && !slt x.n K)
          · have hz := Lib.hid (show acc2 = acc from by
              rw [ha2.out, if_neg (fun h => by
                have h2 : slt x.n K = false := by unfold slt; exact decide_eq_false h.2
                rw [h.1, h2] at hT; cases hT), List.append_nil])
            have hd : (D || !slt x.n K) = D := by
              cases D
              · cases h2 : slt x.n K
                · rw [h2] at hT; cases hT
                · rfl
              · rfl
            clear hT
            go_wp2
            go_meet
            exact ⟨Lib.hid (by rw [hz.out]; exact ho2.out), by rw [hd], e2⟩
          · have hD0 : D = false := by cases D; rfl; simp at hT
            have hsl : slt x.n K = false := by subst hD0; simpa using hT
            have hz := Lib.hid (show acc2 = acc ++ [⟨K, V⟩] from by
              rw [ha2.out, if_pos ⟨hD0, by unfold slt at hsl; exact of_decide_eq_false hsl⟩])
            obtain ⟨b0, b1, -⟩ := hS.out W2 e2
            subst hD0
            clear hT
            go_wp2_with (at_builtin; refine wpList_appendR Tryd.underlying42 info_prz rfl (by decide) (by decide) prc_len prc_one (by decide) rfl (.tmp 28) (.tmp 34) rfl (fun j => W1.heap.size ≤ j) (.slice ao acc.length co) acc rfl (ho2.out.ext ((Ext.refl W2).alloc _)) (.slice (some ⟨W2.heap.size, 0, none⟩) 1 1) [⟨K, V⟩] rfl (Rs.one rfl rfl rfl (prF_of _ hc)) (by have := hpl.out; simp; omega) ?_; intro v7 w7 o7 g7)
            go_meet
            exact ⟨Lib.hid (by rw [hz.out]; exact o7.mono fun j h => h.elim id fun h => Nat.le_trans (e2.alloc (.cells #[.string (str K), .string (str V)] 86)).size h), by rw [hsl]; rfl, (e2.alloc _).chg g7 fun _ h => h⟩
        case rest =>
          obtain ⟨ho3, rfl, e3⟩ := hcut
          obtain ⟨W3, rfl⟩ : ∃ W, W = wc := ⟨_, rfl⟩
          obtain ⟨a3, c3, rfl⟩ := ho3.out.shapeN
          have hdn := Lib.hid (show (D || !slt x.n K) = doneA ⟨K, V, G⟩ G (l.take (k + 1)) from by
            rw [hs2.out]
            show (D || !decide (x.n < K)) = (D || decide (¬ x.n < K))
            rw [decide_not])
          have c0 : W3.cell? ⟨g, o + k * 2, none⟩ = some (.string (str x.n)) := hrW.out W3 e3 0 _ rfl
          obtain ⟨b0, b1, -⟩ := hS.out W3 e3
          generalize (D || !slt x.n K) = D2 at *
          clear ho2 e2 hs2 ha2
          go_upto_region 9 with fail
          go_quiet (fail)
          have e4 := e3.trans (Ext.drewM W3 nq)
          have ho4 := Lib.hid (ho3.out.ext (Ext.drewM W3 nq))
          clear c0 b0 b1 ho3 e3
          generalize W3.drewN nq = W4 at *
          have hrw4 := hrW.out W4 e4
          cases hq : seq x.n K
          · have hz := Lib.hid (hs3.out.trans (show _ = acc2 ++ [x] by rw [if_neg (seq_false.1 hq)]))
            clear hs3
            go_wp2_with (first
              | (refine wpList_load_mid rfl 86 _ rfl g (o + k * 2) rfl [.string (str x.n), .string (str x.v)] _ hrw4 Tryd.underlying86 rfl info_pr ?_)
              | (at_builtin; refine wpList_appendR Tryd.underlying42 info_prz rfl (by decide) (by decide) prc_len prc_one (by decide) rfl (.tmp 44) (.tmp 49) rfl (fun j => W1.heap.size ≤ j) (.slice a3 acc2.length c3) acc2 rfl (ho4.out.ext ((Ext.refl W4).alloc _)) (.slice (some ⟨W4.heap.size, 0, none⟩) 1 1) [x] rfl (Rs.one rfl rfl rfl hf) (by have := hpl2.out; simp; omega) ?_; intro v7 w7 o7 g7))
            go_roundw
            case rel => exact ⟨k + 1, by omega, by go_num, Lib.hid (by rw [hz.out]; exact o7.mono fun j h => h.elim id fun h => Nat.le_trans (e4.alloc (.cells #[.string (str x.n), .string (str x.v)] 86)).size h), ⟨D2, rfl, hdn⟩, (e4.alloc _).chg g7 fun _ h => h⟩
            case measure => simp [intOf]; omega
          · have hz := Lib.hid (hs3.out.trans (show _ = acc2 by rw [if_pos (seq_true.1 hq), List.append_nil]))
            clear hs3
            go_wp2
            go_roundw
            case rel => exact ⟨k + 1, by omega, by go_num, Lib.hid (by rw [hz.out]; exact ho4.out), ⟨D2, rfl, hdn⟩, e4⟩
            case measure => simp [intOf]; omega
    · obtain rfl : k = l.length := by omega
      rw [List.take_length] at ho hD
      have hp2 := Lib.hid (show put ⟨K, V, G⟩ l = putA ⟨K, V, G⟩ G l ++ (if D then [] else [⟨K, V⟩]) from by rw [hD.out]; exact hput.out)
      have hpl := Lib.hid (putA_len ⟨K, V, G⟩ l G)
      clear hput hD
      generalize putA ⟨K, V, G⟩ G l = acc at *
      obtain ⟨ao, co, rfl⟩ := ho.out.shapeN
      obtain ⟨b0, b1, -⟩ := hS.out wr ek
      cases D
      · go_wp2_with (at_builtin; refine wpList_appendR Tryd.underlying42 info_prz rfl (by decide) (by decide) prc_len prc_one (by decide) rfl (.tmp 53) (.tmp 59) rfl (fun j => W1.heap.size ≤ j) (.slice ao acc.length co) acc rfl (ho.out.ext ((Ext.refl wr).alloc _)) (.slice (some ⟨wr.heap.size, 0, none⟩) 1 1) [⟨K, V⟩] rfl (Rs.one rfl rfl rfl (prF_of _ hc)) (by have := hpl.out; simp; omega) ?_; intro v7 w7 o7 g7)
        go_ret
        exact Ret.mk ⟨by rw [hp2.out]; exact o7.mono fun j h => h.elim (fun h => Nat.le_trans e1.out.size h) fun h => Nat.le_trans e1.out.size (Nat.le_trans (ek.alloc (.cells #[.string (str K), .string (str V)] 86)).size h), e1.out.trans ((ek.alloc _).chg g7 fun _ h => h)⟩
      · have hp3 := Lib.hid (show put ⟨K, V, G⟩ l = acc from by rw [hp2.out]; simp)
        clear hp2
        go_wp2
        go_ret
        exact Ret.mk ⟨by rw [hp3.out]; exact ho.out.mono fun j h => Nat.le_trans e1.out.size h, e1.out.trans ek⟩
theorem after_len2 (l : List Pr) (cs : List Ch) (k : Nat) (hk : k ≤ cs.length) : (after l (cs.take k)).length ≤ l.length + cs.length := by
  have h1 := after_len (cs.take k) l
  rw [List.length_take, Nat.min_eq_left hk] at h1
  omega
set_option maxRecDepth 20000 in
set_option maxHeartbeats 2000000 in
theorem refAfter_any (v u : Value) (l : List Pr) (cs : List Ch) (w : World) (h : Prs w v l) (hc : Chs w u cs) (hl : l.length + cs.length ≤ 100000) (hs : Srt l) :
    Calls Tryd.prog 24 #[v, u] w (Ret fun r w' => Prs w' r (after l cs) ∧ Ext w w') := by
  obtain ⟨a, cap, rfl, hlm, hget⟩ := hc.shape
  have hgh := Lib.hid hget
  have hh := Lib.hid h
  have hsh := Lib.hid hs
  have e0 := Ext.refl w
  clear hget hs h
  go_enter Tryd.func24, Tryd.ntmps24
  go_wp2
  go_loopw [0, 5] (fun r i wr => ∃ k : Nat, k ≤ cs.length ∧ i = .int .i64 (k : Int) ∧ RowKit.Hid (Prs wr r (after l (cs.take k))) ∧ Ext w wr) (fun _ i _ => cs.length - (intOf i).toNat)
  case atStart => exact ⟨0, Nat.zero_le _, rfl, Lib.hid (by rw [List.take_zero]; exact hh.out), e0⟩
  case round =>
    obtain ⟨k, hk, rfl, ho, ek⟩ := hrel
    by_cases hlt : k < cs.length
    · obtain ⟨g, o, rfl, hr, hf⟩ := hgh.out k cs[k] (List.getElem?_eq_getElem hlt)
      have hki : (k : Int) < (cs.length : Int) := by omega
      have hw : IntKind.i64.wrap ((k : Int) + 1) = (k : Int) + 1 := by rw [IntKind.wrap_i64]; omega
      have hnx := Lib.hid (after_take (l := l) hlt)
      have hrw : wr.rangeAt g (o + k * 3) [.string (str cs[k].k), .string (str cs[k].v), .bool cs[k].g] := fun j u hu => ek.cell (hr j u hu)
      have hP := refPut_any _ _ cs[k] wr ho.out hf (by have := after_len2 l cs k hk; omega) (after_srt _ hsh.out)
      generalize cs[k] = x at *
      generalize after l (cs.take k) = L at *
      obtain ⟨ao, co, rfl, -⟩ := ho.out.shape
      clear hr
      go_wp2_with (first
        | (refine wpList_load_mid rfl 26 _ rfl g (o + k * 3) rfl [.string (str x.k), .string (str x.v), .bool x.g] _ hrw Tryd.underlying26 rfl info_ch ?_)
        | (go_at_call 45; refine hP.mono ?_; rintro e w2 ⟨r, rfl, o2, e2⟩))
      go_roundw
      case rel => exact ⟨k + 1, by omega, by go_num, Lib.hid (by rw [hnx.out]; exact o2.rs (by decide) prc_len), ek.trans e2⟩
      case measure => simp [intOf]; omega
    · obtain rfl : k = cs.length := by omega
      rw [List.take_length] at ho
      go_wp2
      go_ret
      exact Ret.mk ⟨ho.out, ek⟩
end Go.Proofs.YtkdmljijgfejpaaDoor


