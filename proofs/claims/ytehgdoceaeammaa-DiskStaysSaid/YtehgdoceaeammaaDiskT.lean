/- DiskStays, walked. -/
import Derived.Test.YtehgdoceaeammaaDiskR
namespace Go.Proofs.Ytehgdoceaeammaa
open Go.RowKit Dk

theorem Stay.mono {F G : Nat → Prop} {w : World} {v : Value} {l : List UInt8} (h : Stay F w v l) (hFG : ∀ k, G k → F k) : Stay G w v l := fun w' c => h w' (c.mono hFG)
theorem stay_fresh {F : Nat → Prop} {w w' : World} {v : Value} {l : List UInt8} (hb : Bytes w' v l) (h : v = .slice none 0 0 ∨ ∃ g n c, v = .slice (some ⟨g, 0, none⟩) n c ∧ w.heap.size ≤ g ∧ g < w'.heap.size) (hF : ∀ k, w.heap.size ≤ k → k < w'.heap.size → ¬ F k) : Stay F w' v l := by
  intro w2 c
  rcases h with rfl | ⟨g, n, cp, rfl, h1, h2⟩
  · obtain ⟨a, cap, e, _⟩ := hb
    simp only [Value.slice.injEq] at e
    obtain rfl : l = [] := List.eq_nil_of_length_eq_zero e.2.1.symm
    exact Bytes.nil _
  · exact Bytes.chg hb c (hF g h1 h2)
/-- F, but for what was made between b and c -/
def cutF (F : Nat → Prop) (b c : World) : Nat → Prop := fun k => (F k ∧ k < b.heap.size) ∨ c.heap.size ≤ k
theorem DiskG.cut {F : Nat → Prop} {b c : World} {p : Nat} {d : D} (h : DiskG F b p d) (e : Ext b c) : DiskG (cutF F b c) c p d :=
  ⟨(h.disk.bound.ext e).mono fun _ hk => .inl hk, fun _ hk => .inr hk⟩
theorem DiskG.cut_le {F : Nat → Prop} {b c : World} {p : Nat} {d : D} (h : DiskG F b p d) (e : Ext b c) : ∀ k, cutF F b c k → F k := fun k hk => hk.elim (fun h => h.1) fun h2 => h.fut k (Nat.le_trans e.size h2)
theorem cut_not {F : Nat → Prop} {b c : World} : ∀ k, b.heap.size ≤ k → k < c.heap.size → ¬ cutF F b c k := fun k h1 h2 hk => hk.elim (fun h => by omega) (fun h => by omega)
theorem Bytes.part {w : World} {g o n cap : Nat} {l : List UInt8} (h : Bytes w (.slice (some ⟨g, o, none⟩) n cap) l) (i m : Nat) (him : i + m ≤ l.length) : Bytes w (.slice (some ⟨g, o + i, none⟩) m (cap - i)) ((l.drop i).take m) := by
  obtain ⟨a, cap', e, h⟩ := h
  simp only [Value.slice.injEq] at e
  obtain ⟨rfl, rfl, rfl⟩ := e
  have h1 := h.le
  have h2 := h.capm
  refine Bytes.row (by simp; omega) (by simp; omega) (by omega) fun j hj => ?_
  have hj' : j < m := by simp at hj; omega
  obtain ⟨g', o', e, hc⟩ := h.cells (i + j) (by omega)
  cases e
  rw [Nat.add_assoc, hc]
  simp
theorem Bytes.get' {w : World} {g o n cap : Nat} {l : List UInt8} (h : Bytes w (.slice (some ⟨g, o, none⟩) n cap) l) (j : Nat) (hj : j < l.length) : w.cell? ⟨g, o + j, none⟩ = some (.int .u8 ((l.getD j 0).toNat : Int)) := by
  obtain ⟨a, cap', e, h⟩ := h
  simp only [Value.slice.injEq] at e
  obtain ⟨rfl, rfl, rfl⟩ := e
  obtain ⟨g', o', e, hc⟩ := h.get j hj
  cases e
  exact hc
theorem Bytes.cap {w : World} {g o n cap : Nat} {l : List UInt8} (h : Bytes w (.slice (some ⟨g, o, none⟩) n cap) l) : l.length ≤ cap ∧ cap ≤ maxLen := by
  obtain ⟨a, cap', e, h⟩ := h
  simp only [Value.slice.injEq] at e
  obtain ⟨rfl, rfl, rfl⟩ := e
  exact ⟨h.le, h.capm⟩
theorem wrapI_byte (c : UInt8) : IntKind.i64.wrap (c.toNat : Int) = (c.toNat : Int) := by have := c.toNat_lt; rw [IntKind.wrap_i64]; omega
theorem crash_form (d : D) (h : d.Ok) : ∃ K n, crash [] d = ⟨K, [], [], false, 0⟩ ∧ K.length = 32 * n ∧ n ≤ 512 := by
  have hk := crash_ok [] h
  refine ⟨lay d.kept d.st (cutAt []) d.st.length, _, rfl, hk.len, hk.most⟩
theorem DiskN.ok {w0 w : World} {p : Nat} {d : D} (h : DiskN w0 w p d) : d.Ok := by
  obtain ⟨-, gk, s, v, z, h1, h2, h3, r1, r2, r3, rok⟩ := h
  exact rok
theorem stays_no {K : List UInt8} {n : Nat} (hK : K.length = 32 * n) {i : Int} (b : List UInt8) (hi : ¬ (0 ≤ i ∧ i < (n : Int))) :
    wrE i b ⟨K, [], [], false, 0⟩ = 4 ∧ wrB i b ⟨K, [], [], false, 0⟩ = ⟨K, [], [], false, 0⟩ ∧ rdB i ⟨K, [], [], false, 0⟩ = [] := by
  have hh : has ⟨K, [], [], false, 0⟩ i = false := by
    unfold has D.n
    simp only [hK]
    rw [Nat.mul_div_cancel_left _ (by decide)]
    by_cases h0 : 0 ≤ i
    · have : ¬ i < (n : Int) := fun h => hi ⟨h0, h⟩
      simp [this]
    · simp [h0]
  unfold wrE wrB rdB
  rw [hh]
  exact ⟨rfl, rfl, rfl⟩
theorem stays_yes {K : List UInt8} {n k : Nat} (hK : K.length = 32 * n) {b : List UInt8} (hk : k < n) (hb : b.length ≤ 32) (cuts : List UInt8) :
    wrE (k : Int) b ⟨K, [], [], false, 0⟩ = 0 ∧ wrB (k : Int) b ⟨K, [], [], false, 0⟩ = ⟨K, [(k, pad b)], [], false, 0⟩ ∧ rdB (k : Int) ⟨K, [(k, pad b)], [], false, 0⟩ = pad b ∧
      crash cuts ⟨K, [(k, pad b)], [], false, 0⟩ = ⟨over K (32 * k) ((pad b).take (cutAt cuts 0)), [], [], false, 0⟩ := by
  have hn : ∀ st, (⟨K, st, [], false, 0⟩ : D).n = n := fun st => by unfold D.n; simp only [hK]; rw [Nat.mul_div_cancel_left _ (by decide)]
  have hh : ∀ st, has ⟨K, st, [], false, 0⟩ (k : Int) = true := fun st => by
    unfold has
    rw [hn]
    simp; omega
  refine ⟨?_, ?_, ?_, rfl⟩
  · unfold wrE
    rw [hh, if_neg (by decide), if_neg (by omega)]
    rfl
  · unfold wrB
    rw [hh, if_neg (by decide), if_neg (by omega)]
    rfl
  · unfold rdB
    rw [hh, if_pos rfl]
    simp [rd]
theorem stays_cut {K : List UInt8} {n k c : Nat} (hK : K.length = 32 * n) {b : List UInt8} (hk : k < n) (hb : b.length ≤ 32) (hc : c ≤ 32) :
    (over K (32 * k) ((pad b).take c)).length = 32 * n ∧ (∀ j, j / 32 ≠ k → (over K (32 * k) ((pad b).take c)).getD j 0 = K.getD j 0) ∧
      ((over K (32 * k) ((pad b).take c)).drop (32 * k)).take c = (pad b).take c ∧ ((over K (32 * k) ((pad b).take c)).drop (32 * k + c)).take (32 - c) = (K.drop (32 * k + c)).take (32 - c) := by
  have hp := pad_length hb
  have hl : ((pad b).take c).length = c := by rw [List.length_take, hp]; omega
  have ho : 32 * k + ((pad b).take c).length ≤ K.length := by rw [hl, hK]; omega
  have hg := fun j => over_get ho j
  rw [hl] at hg
  refine ⟨by rw [over_length ho, hK], fun j hj => ?_, ?_, ?_⟩
  · rw [List.getD_eq_getElem?_getD, List.getD_eq_getElem?_getD, hg, if_neg (by omega)]
  · apply List.ext_getElem?
    intro j
    rw [List.getElem?_take, List.getElem?_drop, hg]
    by_cases h : j < c
    · rw [if_pos h, if_pos (by omega), Nat.add_sub_cancel_left]
    · rw [if_neg h, List.getElem?_eq_none (by omega)]
  · apply List.ext_getElem?
    intro j
    rw [List.getElem?_take, List.getElem?_drop, List.getElem?_take, List.getElem?_drop, hg]
    by_cases h : j < 32 - c
    · rw [if_pos h, if_pos h, if_neg (by omega)]
    · rw [if_neg h, if_neg h]
theorem pad_part {b : List UInt8} : ((pad b).drop 0).take b.length = b := by unfold pad; simp
theorem cutAt_some {cuts : List UInt8} (h : 0 < cuts.length) : cutAt cuts 0 = (cuts.getD 0 0).toNat % 33 := by unfold cutAt; rw [if_pos h]
theorem cutAt_none {cuts : List UInt8} (h : ¬ 0 < cuts.length) : cutAt cuts 0 = 0 := by unfold cutAt; rw [if_neg h]
attribute [local irreducible] wrB wrE mk sync syncE drop crash faults stop beh rdB pad cutAt over
set_option maxRecDepth 20000 in
set_option maxHeartbeats 4000000 in
theorem diskStays_any (n : Int) (vl : Value) (l : List Dop) (i : Int) (vb : Value) (b : List UInt8) (vc : Value) (cuts : List UInt8) (w : World) (_ : -9223372036854775808 ≤ n) (_ : n ≤ 9223372036854775807) (hl : Ops w vl l) (_ : -9223372036854775808 ≤ i) (_ : i ≤ 9223372036854775807) (hb : Bytes w vb b) (hc : Bytes w vc cuts) :
    Calls Try.prog 6 #[.int .i64 n, vl, .int .i64 i, vb, vc] w fun e w' => e = .returned (.bool true) ∧ Ext w w' := by
  have hl0 := hl
  obtain ⟨al, cl, rfl, -⟩ := hl
  have hb0 := hb
  obtain ⟨ab, cb, rfl, hb⟩ := hb
  have hc0 := hc
  obtain ⟨ac, cc, rfl, hc⟩ := hc
  clear hb
  have hch := Lib.hid hc
  clear hc
  go_enter Try.func6, Try.ntmps6
  go_upto_region 3 with (first
    | (go_at_call 9; refine (awake_any _).mono ?_; rintro e wA ⟨rfl, eA⟩)
    | (go_at_call 15; refine (few_any _ l _ (hl0.ext eA)).mono ?_; rintro e w' ⟨rfl, rfl⟩))
  by_cases hf : fewO l = true
  · rw [hf]
    by_cases hn : n ≤ 40
    · have dn : decide ((40 : Int) < n) = false := by rw [decide_eq_false_iff_not]; omega
      by_cases h32 : b.length ≤ 32
      · have d32 : decide ((32 : Int) < (b.length : Int)) = false := by rw [decide_eq_false_iff_not]; omega
        by_cases h100 : cuts.length ≤ 100
        · have d100 : decide ((100 : Int) < (cuts.length : Int)) = false := by rw [decide_eq_false_iff_not]; omega
          have hB := behind_any n _ l eA hl0 hf
          go_upto_region 8 with (go_at_call 16; refine hB.mono ?_; rintro e w1 ⟨v1, rfl, p, rfl, h1⟩)
          clear hB
          obtain ⟨K, m, hform, hKm, hm⟩ := crash_form _ h1.ok
          obtain ⟨M, hM⟩ : ∃ M, RowKit.Hid (M = 32 * m) := ⟨_, Lib.hid rfl⟩
          have hK : K.length = M := by rw [hKm, hM.out]
          have hKh := Lib.hid hKm
          clear hKm
          have hC := crash_n h1 (.slice none 0 0) [] (Bytes.nil w)
          rw [hform] at hC
          clear h1 hform
          go_upto_region 9 with (go_at_call 28; refine hC.mono ?_; rintro e w2 ⟨rfl, h2⟩)
          have hBy := bytes_own h2.2
          clear hC
          go_upto_region 10 with (go_at_call 20; refine hBy.mono ?_; rintro e w3 ⟨v3, rfl, hv3, e3⟩)
          have h3 := h2.but e3
          have e03 := h2.1.trans e3
          have hwas := stay_own hv3 (but_not (a := w) (b := w2) (c := w3))
          have hbs := stay_old (F := but w w2 w3) hb0 e03 (but_le e03)
          have hcs := stay_old (F := but w w2 w3) hc0 e03 (but_le e03)
          have hle := but_le (b := w2) e03
          try simp only at hv3 hwas
          obtain ⟨a3, c3, rfl, -⟩ := hv3.bytes
          clear hBy h2 hv3 e3
          generalize but w w2 w3 = F at *
          have hW := write_g h3 (by simp) i _ b hbs
          by_cases hi : 0 ≤ i ∧ i < (m : Int)
          · obtain ⟨k, rfl⟩ : ∃ k : Nat, i = k := ⟨i.toNat, by omega⟩
            have hk : k < m := by omega
            obtain ⟨q1, q2, q3, q4⟩ := stays_yes hKh.out hk h32 cuts
            rw [q1, q2] at hW
            clear h3 q1 q2 hi
            go_upto_region 11 with (go_at_call 11; refine hW.mono ?_; rintro e w4 ⟨rfl, c4, h4⟩)
            have hR := read_own h4.disk (k : Int)
            rw [q3] at hR
            clear hW
            go_upto_region 14 with (go_at_call 14; refine hR.mono ?_; rintro e w5 ⟨v5, rfl, hb5, e5, hv5⟩)
            have h5 := h4.cut e5
            have hG := h4.cut_le e5
            have hseen := stay_fresh hb5 hv5 (cut_not (F := F))
            have c35 := c4.ext e5
            have hwas5 := (hwas.chg c35).mono hG
            have hcs5 := (hcs.chg c35).mono hG
            have e05 := e03.chg c35 hle
            have hle5 : ∀ k, cutF F w4 w5 k → w.heap.size ≤ k := fun k h => hle k (hG k h)
            clear hR h4 hG hwas hcs hbs c4 e5 c35 e03 hle
            generalize cutF F w4 w5 = G at *
            have hC := crash_g h5 _ cuts hcs5
            rw [q4] at hC
            go_upto_region 15 with (go_at_call 28; refine hC.mono ?_; rintro e w6 ⟨rfl, c6, h6⟩)
            have hBy := bytes_any h6.disk
            clear hC h5
            go_upto_region 16 with (go_at_call 20; refine hBy.mono ?_; rintro e w7 ⟨v7, rfl, hv7, e7⟩)
            have c57 := c6.ext e7
            have e07 := e05.chg c57 hle5
            have hw7 := hwas5 _ c57
            have hs7 := hseen _ c57
            have hc7 := hcs5 _ c57
            have hb7 := hb0.ext e07
            try simp only at hv7
            clear hBy h6 c6 e7 c57 hwas5 hseen hcs5 e05 hle5 hv5 q3 q4
            obtain ⟨p1, p2, p3, p4⟩ := stays_cut (c := cutAt cuts 0) hKh.out hk h32 (cutAt_le cuts 0)
            rw [← hM.out] at p1
            have hKM := hK
            generalize over K (32 * k) ((pad b).take (cutAt cuts 0)) = N at *
            obtain ⟨a7, c7, rfl, hat7⟩ := hv7
            obtain ⟨g7, o7, rfl, -⟩ := hat7.get 0 (by have := hM.out; omega)
            have hN7 : Bytes w7 (.slice (some ⟨g7, o7, none⟩) N.length c7) N := ⟨_, _, rfl, hat7⟩
            obtain ⟨g3, o3, e, -⟩ := (show ∃ g o, a3 = some ⟨g, o, none⟩ ∧ True by
              obtain ⟨a, c, e, hat⟩ := hw7
              obtain ⟨g, o, e2, -⟩ := hat.get 0 (by have := hM.out; omega)
              simp only [Value.slice.injEq] at e
              exact ⟨g, o, by rw [e.1, e2], trivial⟩)
            subst e
            have hpl := pad_length h32
            obtain ⟨a5, c5, rfl, hat5⟩ := hs7
            obtain ⟨g5, o5, rfl, -⟩ := hat5.get 0 (by omega)
            have hs7 : Bytes w7 (.slice (some ⟨g5, o5, none⟩) (pad b).length c5) (pad b) := ⟨_, _, rfl, hat5⟩
            have hq1 : Bytes w7 (.slice (some ⟨g5, o5, none⟩) b.length c5) b := by
              have := Bytes.part hs7 0 b.length (by omega)
              rwa [pad_part, Nat.add_zero, Nat.sub_zero] at this
            have hc5 := hat5.le
            have hc5m := hat5.capm
            have hc7m := hat7.capm
            have hc7l := hat7.le
            have hbl5 : (b.length : Int) ≤ (c5 : Int) := by omega
            unfold maxLen at hc5m hc7m
            rw [hpl] at hs7 ⊢
            have hMp : 32 * k + 32 ≤ M := by rw [hM.out]; omega
            have hMp' : M ≤ 16384 := by rw [hM.out]; omega
            have k1 := conv_bytes hq1
            have k2 := conv_bytes hb7
            have k1d := conv_bytes (hq1.ext (Ext.refl w7).drew)
            have k2d := conv_bytes (hb7.ext (Ext.refl w7).drew)
            have q1 := seq_self b
            clear hat5 hat7 hb5
            rw [p1] at hN7 hc7l ⊢
            have hNl := Lib.hid p1
            clear p1 hK
            have hw7h := Lib.hid hw7
            have hplh := Lib.hid hpl
            have hs7h := Lib.hid hs7
            have hN7h := Lib.hid hN7
            have hc7h := Lib.hid hc7
            have p2h := Lib.hid p2
            have p3h := Lib.hid p3
            have p4h := Lib.hid p4
            have hKl := Lib.hid hKM
            clear hKM hw7 hs7 hN7 hq1 hb7 hc7 p2 p3 p4 hch hl0 hb0 hc0 h32 d32 h100 d100 hc7l eA hf hn dn hpl
            go_region
            have e8 := (Ext.refl w7).drew
            go_wp2
            go_loopw [18] (fun ix wr => ∃ j : Nat, j ≤ M ∧ ix = .int .i64 (j : Int) ∧ Ext w7 wr) (fun ix _ => M - (intOf ix).toNat)
            case atStart => exact ⟨0, Nat.zero_le _, rfl, e8⟩
            case round =>
              clear e8
              obtain ⟨j, hj, rfl, ej⟩ := hrel
              by_cases hlt : j < M
              · have hjM : (j : Int) < (M : Int) := by omega
                have cK := ej.cell (hw7h.out.get' j (by have := hKl.out; omega))
                have cN := ej.cell (hN7h.out.get' j (by have := hNl.out; omega))
                have w21 : IntKind.i64.wrap ((j : Int) / 32) = (j : Int) / 32 := by rw [IntKind.wrap_i64]; omega
                clear k1 k2 k1d k2d q1 hMp
                have ejd := Lib.hid ej.drew
                by_cases hjk : j / 32 = k
                · clear cK cN
                  have q21 : ((j : Int) / 32 != (k : Int)) = false := by rw [bne_eq_false_iff_eq]; omega
                  clear hw7h hs7h hN7h hc7h p2h p3h p4h hKl hNl hM hKh ej
                  go_wp2
                  go_region
                  go_wp2
                  go_roundw
                  case rel => exact ⟨j + 1, by omega, by go_num, ejd.out⟩
                  case measure => simp [intOf]; omega
                · rw [p2h.out j hjk] at cN
                  generalize K.getD j 0 = x at cK cN
                  have q21 : ((j : Int) / 32 != (k : Int)) = true := by rw [bne_iff_ne]; omega
                  have e21 := bne_self_eq_false (x.toNat : Int)
                  clear hw7h hs7h hN7h hc7h p2h p3h p4h hKl hNl hM hKh ej
                  go_upto_region 21 with fail
                  have e07h := Lib.hid e07
                  clear e07
                  go_region
                  go_wp2
                  go_roundw
                  case rel => exact ⟨j + 1, by omega, by go_num, ejd.out⟩
                  case measure => simp [intOf]; omega
              · obtain rfl : M = j := by omega
                obtain ⟨c, hc, hc32⟩ : ∃ c, RowKit.Hid (c = cutAt cuts 0) ∧ c ≤ 32 := ⟨_, Lib.hid rfl, cutAt_le cuts 0⟩
                have hK' := hw7h.out.ext ej
                have hN' := hN7h.out.ext ej
                have hS' := hs7h.out.ext ej
                have hC' := hc7h.out.ext ej
                have p3' := p3h.out
                have p4' := p4h.out
                rw [← hc.out] at p3' p4'
                have B1 := Bytes.part hN' (32 * k) c (by have := hNl.out; omega)
                rw [p3'] at B1
                have B2 := Bytes.part hS' 0 c (by rw [hplh.out]; omega)
                have B3 := Bytes.part hN' (32 * k + c) (32 - c) (by have := hNl.out; omega)
                rw [p4'] at B3
                have B4 := Bytes.part hK' (32 * k + c) (32 - c) (by have := hKl.out; omega)
                have hc3 := hK'.cap
                have hc7' := hN'.cap
                rw [hNl.out] at hc7'
                rw [hKl.out] at hc3
                have e0w := Lib.hid (e07.trans ej)
                have hc5x : 32 ≤ c5 := by rw [hplh.out] at hc5; exact hc5
                have hcc : RowKit.Hid (cuts.length = 0 ∧ c = 0 ∨ ∃ c0 : UInt8, ∃ gc oc, ac = some ⟨gc, oc, none⟩ ∧ 0 < cuts.length ∧ wr.cell? ⟨gc, oc, none⟩ = some (.int .u8 (c0.toNat : Int)) ∧ c = c0.toNat % 33) := Lib.hid (by
                  by_cases h0 : 0 < cuts.length
                  · right
                    obtain ⟨a, cp, e, hat⟩ := hC'
                    simp only [Value.slice.injEq] at e
                    obtain ⟨gc, oc, e2, h⟩ := hat.get 0 h0
                    exact ⟨cuts.getD 0 0, gc, oc, by rw [e.1, e2], h0, h, by rw [hc.out, cutAt_some h0]⟩
                  · left
                    exact ⟨by omega, by rw [hc.out, cutAt_none h0]⟩)
                clear hK' hN' hS' hC' p3' p4' hc hw7h hs7h hN7h hc7h p2h p3h p4h hKl hNl hM hKh ej hlt k1 k2 k1d k2d hplh
                have w1 : IntKind.i64.wrap (32 * (k : Int)) = 32 * (k : Int) := by rw [IntKind.wrap_i64]; omega
                have w2 : IntKind.i64.wrap (32 * (k : Int) + 32) = 32 * (k : Int) + 32 := by rw [IntKind.wrap_i64]; omega
                have f0 : (0 : Int) ≤ 32 * (k : Int) + 32 := by omega
                have f1 : 32 * (k : Int) + 32 ≤ (c7 : Int) := by omega
                have f2 : (0 : Int) ≤ 32 * (k : Int) := by omega
                have f3 : 32 * (k : Int) ≤ 32 * (k : Int) + 32 := by omega
                have hne7 : ¬ c7 = 32 * k := by omega
                rcases hcc.out with ⟨h0, hc0⟩ | ⟨c0, gc, oc, rfl, h0, hcell, hcm⟩
                · have d0 : decide ((0 : Int) < (cuts.length : Int)) = false := by rw [decide_eq_false_iff_not]; omega
                  clear hcc
                  have hc0h := Lib.hid hc0
                  clear hc0
                  go_upto_region 27 with fail
                  rw [show (Value.int .i64 0) = Value.int .i64 (c : Int) from by rw [hc0h.out]; rfl]
                  clear d0 h0
                  have hl32 : 32 * k + 32 - 32 * k = 32 := by omega
                  rw [hl32]
                  obtain ⟨cB, hcB⟩ : ∃ cB, RowKit.Hid (cB = c7 - 32 * k) := ⟨_, Lib.hid rfl⟩
                  have B3s : c7 - (32 * k + c) = cB - c := by rw [hcB.out]; omega
                  rw [← hcB.out] at B1 ⊢
                  rw [B3s, ← Nat.add_assoc] at B3
                  rw [List.drop_zero, Nat.add_zero, Nat.sub_zero] at B2
                  have cB32 : 32 ≤ cB := by rw [hcB.out]; omega
                  have t0 : (0 : Int) ≤ (c : Int) := by omega
                  have t1 : (c : Int) ≤ (cB : Int) := by omega
                  have t2 : (c : Int) ≤ (c5 : Int) := by omega
                  have t3 : (c : Int) ≤ 32 := by omega
                  have w3 : IntKind.i64.wrap (32 * (k : Int) + (c : Int)) = 32 * (k : Int) + (c : Int) := by rw [IntKind.wrap_i64]; omega
                  have t4 : (0 : Int) ≤ 32 * (k : Int) + (c : Int) := by omega
                  have t5 : 32 * (k : Int) + (c : Int) ≤ 32 * (k : Int) + 32 := by omega
                  have t6 : 32 * (k : Int) + 32 ≤ (c3 : Int) := by omega
                  have t7 : 32 * k + 32 - (32 * k + c) = 32 - c := by omega
                  by_cases hz : c = 32
                  · exact absurd hz (by rw [hc0h.out]; omega)
                  · have hne1 : ¬ cB = c := by omega
                    have hne2 : ¬ c3 = 32 * k + c := by omega
                    have k1 := conv_bytes B1
                    have k2 := conv_bytes B2
                    have k3 := conv_bytes B3
                    have k4 := conv_bytes B4
                    have q1 := seq_self ((pad b).take c)
                    have q2 := seq_self ((K.drop (32 * k + c)).take (32 - c))
                    have k1d := conv_bytes (B1.ext (Ext.refl wr).drew)
                    have k2d := conv_bytes (B2.ext (Ext.refl wr).drew)
                    have k3d := conv_bytes (B3.ext (Ext.refl wr).drew)
                    have k4d := conv_bytes (B4.ext (Ext.refl wr).drew)
                    clear hc5
                    generalize (pad b).take c = Y1 at *
                    generalize (K.drop (32 * k + c)).take (32 - c) = Y2 at *
                    clear B1 B2 B3 B4 B3s hcB cB32 hc3 hc7' hMp' f1 hl32 hne7
                    have tn2 : (32 * (k : Int) + 32).toNat = 32 * k + 32 := by omega
                    have tn : (32 * (k : Int) + (c : Int)).toNat = 32 * k + c := by omega
                    go_region_held3 (fun W => (convert 22 9 (Value.slice (some ⟨g7, o7 + 32 * k, none⟩) c cB)).run Try.prog W = .ok (.string (str Y1)) W ∧ (convert 22 9 (Value.slice (some ⟨g5, o5, none⟩) c c5)).run Try.prog W = .ok (.string (str Y1)) W ∧ (convert 22 9 (Value.slice (some ⟨g7, o7 + 32 * k + c, none⟩) (32 - c) (cB - c))).run Try.prog W = .ok (.string (str Y2)) W ∧ (convert 22 9 (Value.slice (some ⟨g3, o3 + (32 * k + c), none⟩) (32 - c) (c3 - (32 * k + c)))).run Try.prog W = .ok (.string (str Y2)) W) (first | exact ⟨k1, k2, k3, k4⟩ | exact ⟨k1d, k2d, k3d, k4d⟩) (fail)
                    go_wp2
                    go_ret
                    exact ⟨rfl, e0w.out.drew⟩
                · have d0 : decide ((0 : Int) < (cuts.length : Int)) = true := by rw [decide_eq_true_iff]; omega
                  have wb := wrapI_byte c0
                  have wc : IntKind.i64.wrap ((c0.toNat : Int) % 33) = (c : Int) := by rw [IntKind.wrap_i64]; omega
                  have hi0 : (0 : Int) < (cuts.length : Int) := by omega
                  clear hcc
                  have hcmh := Lib.hid hcm
                  clear hcm
                  go_upto_region 27 with fail
                  have hcz : ((c0.toNat : Int) % 33) = (c : Int) := by rw [hcmh.out]; omega
                  rw [hcz]
                  clear hcz wb wc hi0 d0 hcmh hcell h0
                  have hl32 : 32 * k + 32 - 32 * k = 32 := by omega
                  rw [hl32]
                  obtain ⟨cB, hcB⟩ : ∃ cB, RowKit.Hid (cB = c7 - 32 * k) := ⟨_, Lib.hid rfl⟩
                  have B3s : c7 - (32 * k + c) = cB - c := by rw [hcB.out]; omega
                  rw [← hcB.out] at B1 ⊢
                  rw [B3s, ← Nat.add_assoc] at B3
                  rw [List.drop_zero, Nat.add_zero, Nat.sub_zero] at B2
                  have cB32 : 32 ≤ cB := by rw [hcB.out]; omega
                  have t0 : (0 : Int) ≤ (c : Int) := by omega
                  have t1 : (c : Int) ≤ (cB : Int) := by omega
                  have t2 : (c : Int) ≤ (c5 : Int) := by omega
                  have t3 : (c : Int) ≤ 32 := by omega
                  have w3 : IntKind.i64.wrap (32 * (k : Int) + (c : Int)) = 32 * (k : Int) + (c : Int) := by rw [IntKind.wrap_i64]; omega
                  have t4 : (0 : Int) ≤ 32 * (k : Int) + (c : Int) := by omega
                  have t5 : 32 * (k : Int) + (c : Int) ≤ 32 * (k : Int) + 32 := by omega
                  have t6 : 32 * (k : Int) + 32 ≤ (c3 : Int) := by omega
                  have t7 : 32 * k + 32 - (32 * k + c) = 32 - c := by omega
                  by_cases hz : c = 32
                  · have zb : ∀ a cap, cap ≤ maxLen → Bytes wr (.slice (some a) (32 - c) cap) [] := fun a cap h => by
                      rw [hz]
                      exact ⟨some a, cap, rfl, Nat.zero_le _, h, fun h => by simp at h, fun j hj => by simp at hj⟩
                    have tn2 : (32 * (k : Int) + 32).toNat = 32 * k + 32 := by omega
                    have tn : (32 * (k : Int) + (c : Int)).toNat = 32 * k + c := by omega
                    have q1 := seq_self ((pad b).take c)
                    have q2 := seq_self ([] : List UInt8)
                    have k1 := conv_bytes B1
                    have k2 := conv_bytes B2
                    have k1d := conv_bytes (B1.ext (Ext.refl wr).drew)
                    have k2d := conv_bytes (B2.ext (Ext.refl wr).drew)
                    have hzh := Lib.hid hz
                    have hcm : cB ≤ maxLen := by rw [hcB.out]; omega
                    clear hz
                    by_cases n1 : cB = c
                    all_goals by_cases n2 : c3 = 32 * k + c
                    · clear hcB B3 B4 B3s
                      obtain rfl : c = cB := n1.symm
                      obtain rfl : c3 = 32 * k + c := n2
                      have t6x : 32 * (k : Int) + 32 ≤ 32 * (k : Int) + (c : Int) := by have := hzh.out; omega
                      have k3 := conv_bytes (zb ⟨g7, o7 + 32 * k, none⟩ 0 (by unfold maxLen at *; omega))
                      have k4 := conv_bytes (zb ⟨g3, o3, none⟩ 0 (by unfold maxLen at *; omega))
                      have k3d := conv_bytes ((zb ⟨g7, o7 + 32 * k, none⟩ 0 (by unfold maxLen at *; omega)).ext (Ext.refl wr).drew)
                      have k4d := conv_bytes ((zb ⟨g3, o3, none⟩ 0 (by unfold maxLen at *; omega)).ext (Ext.refl wr).drew)
                      clear zb hc5 B1 B2 cB32 hc3 hc7' hMp' f1 hl32 hne7 hcm
                      go_region_held3 (fun W => (convert 22 9 (Value.slice (some ⟨g7, o7 + 32 * k, none⟩) c c)).run Try.prog W = .ok (.string (str ((pad b).take c))) W ∧ (convert 22 9 (Value.slice (some ⟨g5, o5, none⟩) c c5)).run Try.prog W = .ok (.string (str ((pad b).take c))) W ∧ (convert 22 9 (Value.slice (some ⟨g7, o7 + 32 * k, none⟩) (32 - c) 0)).run Try.prog W = .ok (.string (str [])) W ∧ (convert 22 9 (Value.slice (some ⟨g3, o3, none⟩) (32 - c) 0)).run Try.prog W = .ok (.string (str [])) W) (first | exact ⟨k1, k2, k3, k4⟩ | exact ⟨k1d, k2d, k3d, k4d⟩) (fail)
                      go_wp2
                      go_ret
                      exact ⟨rfl, e0w.out.drew⟩
                    · clear hcB B3 B4 B3s
                      obtain rfl : c = cB := n1.symm
                      have k3 := conv_bytes (zb ⟨g7, o7 + 32 * k, none⟩ 0 (by unfold maxLen at *; omega))
                      have k4 := conv_bytes (zb ⟨g3, o3 + (32 * k + c), none⟩ (c3 - (32 * k + c)) (by unfold maxLen at *; omega))
                      have k3d := conv_bytes ((zb ⟨g7, o7 + 32 * k, none⟩ 0 (by unfold maxLen at *; omega)).ext (Ext.refl wr).drew)
                      have k4d := conv_bytes ((zb ⟨g3, o3 + (32 * k + c), none⟩ (c3 - (32 * k + c)) (by unfold maxLen at *; omega)).ext (Ext.refl wr).drew)
                      clear zb hc5 B1 B2 cB32 hc3 hc7' hMp' f1 hl32 hne7 hcm
                      go_region_held3 (fun W => (convert 22 9 (Value.slice (some ⟨g7, o7 + 32 * k, none⟩) c c)).run Try.prog W = .ok (.string (str ((pad b).take c))) W ∧ (convert 22 9 (Value.slice (some ⟨g5, o5, none⟩) c c5)).run Try.prog W = .ok (.string (str ((pad b).take c))) W ∧ (convert 22 9 (Value.slice (some ⟨g7, o7 + 32 * k, none⟩) (32 - c) 0)).run Try.prog W = .ok (.string (str [])) W ∧ (convert 22 9 (Value.slice (some ⟨g3, o3 + (32 * k + c), none⟩) (32 - c) (c3 - (32 * k + c)))).run Try.prog W = .ok (.string (str [])) W) (first | exact ⟨k1, k2, k3, k4⟩ | exact ⟨k1d, k2d, k3d, k4d⟩) (fail)
                      go_wp2
                      go_ret
                      exact ⟨rfl, e0w.out.drew⟩
                    · clear hcB B3 B4 B3s
                      obtain rfl : c3 = 32 * k + c := n2
                      have t6x : 32 * (k : Int) + 32 ≤ 32 * (k : Int) + (c : Int) := by have := hzh.out; omega
                      have k3 := conv_bytes (zb ⟨g7, o7 + 32 * k + c, none⟩ (cB - c) (by unfold maxLen at *; omega))
                      have k4 := conv_bytes (zb ⟨g3, o3, none⟩ 0 (by unfold maxLen at *; omega))
                      have k3d := conv_bytes ((zb ⟨g7, o7 + 32 * k + c, none⟩ (cB - c) (by unfold maxLen at *; omega)).ext (Ext.refl wr).drew)
                      have k4d := conv_bytes ((zb ⟨g3, o3, none⟩ 0 (by unfold maxLen at *; omega)).ext (Ext.refl wr).drew)
                      clear zb hc5 B1 B2 cB32 hc3 hc7' hMp' f1 hl32 hne7 hcm
                      go_region_held3 (fun W => (convert 22 9 (Value.slice (some ⟨g7, o7 + 32 * k, none⟩) c cB)).run Try.prog W = .ok (.string (str ((pad b).take c))) W ∧ (convert 22 9 (Value.slice (some ⟨g5, o5, none⟩) c c5)).run Try.prog W = .ok (.string (str ((pad b).take c))) W ∧ (convert 22 9 (Value.slice (some ⟨g7, o7 + 32 * k + c, none⟩) (32 - c) (cB - c))).run Try.prog W = .ok (.string (str [])) W ∧ (convert 22 9 (Value.slice (some ⟨g3, o3, none⟩) (32 - c) 0)).run Try.prog W = .ok (.string (str [])) W) (first | exact ⟨k1, k2, k3, k4⟩ | exact ⟨k1d, k2d, k3d, k4d⟩) (fail)
                      go_wp2
                      go_ret
                      exact ⟨rfl, e0w.out.drew⟩
                    · clear hcB B3 B4 B3s
                      have k3 := conv_bytes (zb ⟨g7, o7 + 32 * k + c, none⟩ (cB - c) (by unfold maxLen at *; omega))
                      have k4 := conv_bytes (zb ⟨g3, o3 + (32 * k + c), none⟩ (c3 - (32 * k + c)) (by unfold maxLen at *; omega))
                      have k3d := conv_bytes ((zb ⟨g7, o7 + 32 * k + c, none⟩ (cB - c) (by unfold maxLen at *; omega)).ext (Ext.refl wr).drew)
                      have k4d := conv_bytes ((zb ⟨g3, o3 + (32 * k + c), none⟩ (c3 - (32 * k + c)) (by unfold maxLen at *; omega)).ext (Ext.refl wr).drew)
                      clear zb hc5 B1 B2 cB32 hc3 hc7' hMp' f1 hl32 hne7 hcm
                      go_region_held3 (fun W => (convert 22 9 (Value.slice (some ⟨g7, o7 + 32 * k, none⟩) c cB)).run Try.prog W = .ok (.string (str ((pad b).take c))) W ∧ (convert 22 9 (Value.slice (some ⟨g5, o5, none⟩) c c5)).run Try.prog W = .ok (.string (str ((pad b).take c))) W ∧ (convert 22 9 (Value.slice (some ⟨g7, o7 + 32 * k + c, none⟩) (32 - c) (cB - c))).run Try.prog W = .ok (.string (str [])) W ∧ (convert 22 9 (Value.slice (some ⟨g3, o3 + (32 * k + c), none⟩) (32 - c) (c3 - (32 * k + c)))).run Try.prog W = .ok (.string (str [])) W) (first | exact ⟨k1, k2, k3, k4⟩ | exact ⟨k1d, k2d, k3d, k4d⟩) (fail)
                      go_wp2
                      go_ret
                      exact ⟨rfl, e0w.out.drew⟩
                  · have hne1 : ¬ cB = c := by omega
                    have hne2 : ¬ c3 = 32 * k + c := by omega
                    have k1 := conv_bytes B1
                    have k2 := conv_bytes B2
                    have k3 := conv_bytes B3
                    have k4 := conv_bytes B4
                    have q1 := seq_self ((pad b).take c)
                    have q2 := seq_self ((K.drop (32 * k + c)).take (32 - c))
                    have k1d := conv_bytes (B1.ext (Ext.refl wr).drew)
                    have k2d := conv_bytes (B2.ext (Ext.refl wr).drew)
                    have k3d := conv_bytes (B3.ext (Ext.refl wr).drew)
                    have k4d := conv_bytes (B4.ext (Ext.refl wr).drew)
                    clear hc5
                    generalize (pad b).take c = Y1 at *
                    generalize (K.drop (32 * k + c)).take (32 - c) = Y2 at *
                    clear B1 B2 B3 B4 B3s hcB cB32 hc3 hc7' hMp' f1 hl32 hne7
                    have tn2 : (32 * (k : Int) + 32).toNat = 32 * k + 32 := by omega
                    have tn : (32 * (k : Int) + (c : Int)).toNat = 32 * k + c := by omega
                    go_region_held3 (fun W => (convert 22 9 (Value.slice (some ⟨g7, o7 + 32 * k, none⟩) c cB)).run Try.prog W = .ok (.string (str Y1)) W ∧ (convert 22 9 (Value.slice (some ⟨g5, o5, none⟩) c c5)).run Try.prog W = .ok (.string (str Y1)) W ∧ (convert 22 9 (Value.slice (some ⟨g7, o7 + 32 * k + c, none⟩) (32 - c) (cB - c))).run Try.prog W = .ok (.string (str Y2)) W ∧ (convert 22 9 (Value.slice (some ⟨g3, o3 + (32 * k + c), none⟩) (32 - c) (c3 - (32 * k + c)))).run Try.prog W = .ok (.string (str Y2)) W) (first | exact ⟨k1, k2, k3, k4⟩ | exact ⟨k1d, k2d, k3d, k4d⟩) (fail)
                    go_wp2
                    go_ret
                    exact ⟨rfl, e0w.out.drew⟩
          · obtain ⟨q1, q2, q3⟩ := stays_no hKh.out b hi
            rw [q1, q2] at hW
            clear h3 q1 q2
            go_upto_region 11 with (go_at_call 11; refine hW.mono ?_; rintro e w4 ⟨rfl, c4, h4⟩)
            have hR := read_any h4.disk i
            rw [q3] at hR
            have hLe := len_any h4.disk
            have hn : (⟨K, [], [], false, 0⟩ : D).n = m := by unfold D.n; simp only [hKh.out]; rw [Nat.mul_div_cancel_left _ (by decide)]
            rw [hn] at hLe
            have e04 := e03.chg c4 hle
            clear hW hn q3
            go_upto_region 12 with (go_at_call 14; refine hR.mono ?_; rintro e w5 ⟨v5, rfl, hb5, e5⟩)
            have hLe := len_any (h4.ext e5).disk
            have hn : (⟨K, [], [], false, 0⟩ : D).n = m := by unfold D.n; simp only [hKh.out]; rw [Nat.mul_div_cancel_left _ (by decide)]
            rw [hn] at hLe
            obtain ⟨a5, c5, rfl, -⟩ := hb5
            clear hR h4 hn c4
            by_cases h0 : i < 0
            · have i1 : decide (i < 0) = true := by rw [decide_eq_true_iff]; exact h0
              go_wp2_with (go_at_call 22; refine hLe.mono ?_; rintro e w' ⟨rfl, rfl⟩)
              go_ret
              exact ⟨rfl, e04.trans e5⟩
            · have i1 : decide (i < 0) = false := by rw [decide_eq_false_iff_not]; exact h0
              have i2 : decide ((m : Int) ≤ i) = true := by rw [decide_eq_true_iff]; omega
              go_wp2_with (go_at_call 22; refine hLe.mono ?_; rintro e w' ⟨rfl, rfl⟩)
              go_ret
              exact ⟨rfl, e04.trans e5⟩
        · have d100 : decide ((100 : Int) < (cuts.length : Int)) = true := by rw [decide_eq_true_iff]; omega
          go_wp2
          go_ret
          exact ⟨rfl, eA⟩
      · have d32 : decide ((32 : Int) < (b.length : Int)) = true := by rw [decide_eq_true_iff]; omega
        go_wp2
        go_ret
        exact ⟨rfl, eA⟩
    · have dn : decide ((40 : Int) < n) = true := by rw [decide_eq_true_iff]; omega
      go_wp2
      go_ret
      exact ⟨rfl, eA⟩
  · have hf' : fewO l = false := by simpa using hf
    rw [hf']
    go_wp2
    go_ret
    exact ⟨rfl, eA⟩
end Go.Proofs.Ytehgdoceaeammaa
