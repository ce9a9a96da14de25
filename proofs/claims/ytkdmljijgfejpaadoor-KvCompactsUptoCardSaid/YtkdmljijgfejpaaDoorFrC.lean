/- Package frame: the record that stands first. -/
import Derived.Test.YtkdmljijgfejpaaDoorFrB
import Derived.Deep.DeepCutAuto
import Derived.Deep.CutBlock
namespace Go.Proofs.YtkdmljijgfejpaaDoor
set_option linter.unusedVariables false
set_option linter.unusedSimpArgs false
open Go.RowKit Fr

/-- block g is a row of bytes -/
def U8B (w : World) (g : Nat) : Prop := ∃ cur fr, w.heap[g]? = some (.cells cur 5 fr)
theorem U8B.ext {w w' : World} {g : Nat} (h : U8B w g) (e : Ext w w') : U8B w' g := let ⟨c, f, h1⟩ := h; ⟨c, f, e.heap h1⟩
theorem U8B.chg {w w' : World} {F : Nat → Prop} {g : Nat} (h : U8B w g) (e : Chg F w w') (hF : ¬ F g) : U8B w' g := let ⟨c, f, h1⟩ := h; ⟨c, f, (e.block g (Array.getElem?_eq_some_iff.1 h1).1 hF).trans h1⟩
theorem OwnB.u8 {w : World} {base g o n cap : Nat} {l : List UInt8} (h : OwnB w base (.slice (some ⟨g, o, none⟩) n cap) l) : U8B w g := by
  rcases h.2 with ⟨h1, _⟩ | ⟨g', cap', cur, e, _, hh, _⟩
  · cases h1
  · cases e; exact ⟨cur, _, hh⟩
set_option maxHeartbeats 2000000 in
theorem first_any (v : Value) (b : List UInt8) (w : World) (hw : Halves w) (hb : Bytes w v b) :
    Calls Tryd.prog 81 #[v] w (Ret fun x w' => Ext w w' ∧ ((fits b = false ∧ x = .slice none 0 0) ∨ (fits b = true ∧ ∃ g cap, x = .slice (some ⟨g, 6, none⟩) (nAt b) cap ∧ w.heap.size ≤ g ∧ Bytes w' x (rec1 b) ∧ U8B w' g))) := by
  obtain ⟨a, cap, rfl, hat⟩ := id hb
  have hcp := hb.cp
  have hcap := hcp.2.1
  have hmx : b.length ≤ 9223372036854775807 := hat.len
  by_cases h6 : b.length < 6
  · have hF := Lib.hid (show fits b = false from by
      cases hf : fits b with
      | false => rfl
      | true => have := (fits_iff.1 hf).1; omega)
    clear hat hb hcp
    go_enter Tryd.func81, Tryd.ntmps81
    go_wp2
    go_ret
    exact Ret.mk ⟨Ext.refl _, .inl ⟨hF.out, rfl⟩⟩
  obtain ⟨g, o, rfl⟩ := hb.ad (by omega)
  have c0 := hb.gt 0 (by omega)
  rw [Nat.add_zero] at c0
  have c1 := hb.gt 1 (by omega)
  have hnn := Lib.hid (show nAt b = n2 (b.getD 0 0) (b.getD 1 0) from rfl)
  have hnl := n2_lt (b.getD 0 0) (b.getD 1 0)
  have hbh := Lib.hid hb
  have hwh := Lib.hid hw
  have i0 : 0 < b.length := by omega
  have i1 : 1 < b.length := by omega
  clear hb hat hcp hw
  generalize b.getD 0 0 = x0 at *
  generalize b.getD 1 0 = x1 at *
  have k0 := wrap64_byte x0
  have k1 := wrap64_byte x1
  have k2 := wrap64_byte8 x0
  have k3 := or_bytes x0 x1
  generalize n2 x0 x1 = n at *
  go_enter Tryd.func81, Tryd.ntmps81
  go_upto_region 3 with fail
  go_region
  clear c0 c1 k0 k1 k2 k3
  have e1 := (Ext.refl w).drew
  generalize w.drew = w1 at *
  by_cases hn0 : n = 0
  · have hF := Lib.hid (show fits b = false from by
      cases hf : fits b with
      | false => rfl
      | true => have := (fits_iff.1 hf).2.1; rw [hnn.out] at this; omega)
    have q : ((n : Int) == 0) = true := by rw [beq_iff_eq]; omega
    clear hn0 hnn
    go_wp2
    go_ret
    exact Ret.mk ⟨e1, .inl ⟨hF.out, rfl⟩⟩
  have q0 : ((n : Int) == 0) = false := by rw [beq_eq_false_iff_ne]; omega
  by_cases hn4 : 4000 < n
  · have hF := Lib.hid (show fits b = false from by
      cases hf : fits b with
      | false => rfl
      | true => have := (fits_iff.1 hf).2.2.1; rw [hnn.out] at this; omega)
    have q : (4000 : Int) < (n : Int) := by omega
    clear hnn
    go_wp2
    go_ret
    exact Ret.mk ⟨e1, .inl ⟨hF.out, rfl⟩⟩
  have q4 : ¬ (4000 : Int) < (n : Int) := by omega
  have hsz := size_any (n : Int) (by omega) (by omega)
  by_cases hlen : b.length < n + 6
  · have hF := Lib.hid (show fits b = false from by
      cases hf : fits b with
      | false => rfl
      | true => have := (fits_iff.1 hf).2.2.2.1; rw [hnn.out] at this; omega)
    have q : (b.length : Int) < (n : Int) + 6 := by omega
    clear hnn
    go_wp2_with (go_at_call 68; refine (hsz _).mono ?_; rintro e w' ⟨rfl, rfl⟩)
    go_ret
    exact Ret.mk ⟨e1, .inl ⟨hF.out, rfl⟩⟩
  have ql : ¬ (b.length : Int) < (n : Int) + 6 := by omega
  have hf4 : n + 6 ≤ b.length := by omega
  have hr1 := Lib.hid (show (b.drop 6).take n = rec1 b from by unfold rec1; rw [hnn.out])
  have hrl := Lib.hid (show (rec1 b).length = n from by rw [← hr1.out, List.length_take, List.length_drop]; omega)
  have hpb := Lib.hid ((hbh.out.pc 6 n (by omega)).ext e1)
  have hpi := Lib.hid ((hbh.out.ini (n + 6) (by omega)).ext e1)
  rw [hr1.out] at hpb
  have hE := Lib.hid (show errOf (rec1 b) = 0 from errOf_ok.2 (ok_iff.2 (by rw [hrl.out]; omega)))
  have hfl := Lib.hid (show (frm (rec1 b)).length = n + 6 from by rw [frm_length, hrl.out]; omega)
  have hfit := Lib.hid (show fits b = seq (frm (rec1 b)) (b.take (n + 6)) from by
    have h1 : (fits b = true) ↔ (seq (frm (rec1 b)) (b.take (n + 6)) = true) := by
      rw [fits_iff, seq_true, hnn.out, Nat.add_comm 6 n]
      constructor
      · exact fun h => h.2.2.2.2
      · exact fun h => ⟨by omega, by omega, by omega, hf4, h⟩
    cases h2 : fits b <;> cases h3 : seq (frm (rec1 b)) (b.take (n + 6))
    · rfl
    · rw [h1.2 h3] at h2; cases h2
    · rw [h1.1 h2] at h3; cases h3
    · rfl)
  have hdr := Lib.hid (show (frm (rec1 b)).drop 6 = rec1 b from rfl)
  generalize hRe : rec1 b = R at *
  have hRh := Lib.hid hRe
  clear hRe
  have hP := Lib.hid (fun W (e : Ext w1 W) v hv => put_any v R W ((hwh.out.ext e1).ext e) hv)
  have s6 : (6 : Int) ≤ (n : Int) + 6 := by omega
  have sc : (n : Int) + 6 ≤ (cap : Int) := by omega
  have sn : (0 : Int) ≤ (n : Int) + 6 := by omega
  go_upto_region 7 with (first
    | (go_at_call 68; refine (hsz _).mono ?_; rintro e w' ⟨rfl, rfl⟩)
    | (go_at_call 55; refine (hP.out _ (Ext.refl _) _ hpb.out).mono ?_; rintro e w2 ⟨r, rfl, x, rfl, e2, hx⟩))
  obtain ⟨-, hx2⟩ | ⟨hx1, -⟩ := hx
  rotate_left
  · exact absurd hE.out hx1
  obtain ⟨g2, cap2, rfl, hg2, -, -, -, -⟩ := hx2.cells (by rw [hfl.out]; omega)
  have hb2 := hx2.bytes
  have hu2 := Lib.hid hx2.u8
  rw [hfl.out] at hb2 ⊢
  have hc2 := hb2.cp.2.1
  rw [hfl.out] at hc2
  have hb2h := Lib.hid hb2
  have hpi2 := Lib.hid (hpi.out.ext e2)
  have hrg := Lib.hid (show Bytes w2 (.slice (some ⟨g2, 6, none⟩) n (cap2 - 6)) R from by
    have := hb2.pc 6 n (by rw [hfl.out]; omega)
    rw [hdr.out, Nat.zero_add, List.take_of_length_le (by rw [hrl.out]; omega)] at this
    exact this)
  have e12 := Lib.hid (e1.trans e2)
  have hg3 := Lib.hid (Nat.le_trans e1.size hg2)
  have hEq := Lib.hid (fun W (e : Ext w2 W) => equal_any _ _ (frm R) (b.take (n + 6)) W (hb2h.out.ext e) (hpi2.out.ext e))
  have hcc : 6 < cap2 := by omega
  clear hb2 hx2 hP hpb hpi hE hr1
  have s46 : (6 : Int) ≤ (n : Int) + 6 := by omega
  cases hq : seq (frm R) (b.take (n + 6))
  · have hF := Lib.hid (hfit.out.trans hq)
    have hEq2 := Lib.hid (fun W e => by have := hEq.out W e; rw [hq] at this; exact this)
    clear hEq hq
    go_wp2_with (first
      | (go_at_call 68; refine (hsz _).mono ?_; rintro e w' ⟨rfl, rfl⟩)
      | (go_at_call 64; refine (hEq2.out _ (Ext.refl _)).mono ?_; rintro e w3 ⟨rfl, e3⟩; go_wp2_with fail))
    go_ret
    exact Ret.mk ⟨e12.out.trans e3, .inl ⟨hF.out, rfl⟩⟩
  · have hF := Lib.hid (hfit.out.trans hq)
    have hEq2 := Lib.hid (fun W e => by have := hEq.out W e; rw [hq] at this; exact this)
    clear hEq hq
    go_wp2_with (first
      | (go_at_call 68; refine (hsz _).mono ?_; rintro e w' ⟨rfl, rfl⟩)
      | (go_at_call 64; refine (hEq2.out _ (Ext.refl _)).mono ?_; rintro e w3 ⟨rfl, e3⟩; go_wp2_with fail))
    go_ret
    refine Ret.mk ⟨e12.out.trans e3, .inr ⟨hF.out, g2, cap2 - 6, by rw [hnn.out]; rfl, hg3.out, ?_, hu2.out.ext e3⟩⟩
    rw [hRh.out]
    exact hrg.out.ext e3
end Go.Proofs.YtkdmljijgfejpaaDoor
