/- The walk of CrcSums: it returns true and leaves what was there. -/
import Derived.Test.YtjfijjiknoociaaDoorCrcAwake
namespace Go.Proofs.YtjfijjiknoociaaDoor
open Go.RowKit

/-- after k rounds -/
def mix (a b c : List UInt8) (k : Nat) : List UInt8 := (Crc.xor3 a b c).take k ++ a.drop k
theorem mix_length (a b c : List UInt8) (hb : b.length = a.length) (hc : c.length = a.length) (k : Nat) : (mix a b c k).length = a.length := by
  have : (Crc.xor3 a b c).length = a.length := Crc.xor3_length a b c hb hc
  simp [mix, this]; omega
theorem mix_at (a b c : List UInt8) (hb : b.length = a.length) (hc : c.length = a.length) (k : Nat) (hk : k < a.length) : (mix a b c k).getD k 0 = a.getD k 0 := by
  have hl : (Crc.xor3 a b c).length = a.length := Crc.xor3_length a b c hb hc
  have : (mix a b c k)[k]? = some (a.getD k 0) := by
    unfold mix
    rw [List.getElem?_append_right (by simp [hl]; omega)]
    simp [hl, Nat.min_eq_left (Nat.le_of_lt hk), hk]
  rw [List.getD_eq_getElem?_getD, this]; rfl
theorem mix_set (a b c : List UInt8) (hb : b.length = a.length) (hc : c.length = a.length) (k : Nat) (hk : k < a.length) : (mix a b c k).set k (a.getD k 0 ^^^ b.getD k 0 ^^^ c.getD k 0) = mix a b c (k + 1) := by
  have hl : (Crc.xor3 a b c).length = a.length := Crc.xor3_length a b c hb hc
  have hx := Crc.xor3_at a b c k hk (by omega) (by omega)
  unfold mix
  rw [List.set_append_right _ _ (by simp [hl]; omega)]
  have e1 : k - (List.take k (Crc.xor3 a b c)).length = 0 := by simp [hl]; omega
  rw [e1, List.drop_eq_getElem_cons hk, List.set_cons_zero, List.take_add_one, hx]
  simp
theorem mix_all (a b c : List UInt8) (hb : b.length = a.length) (hc : c.length = a.length) : mix a b c a.length = Crc.xor3 a b c := by
  have hl : (Crc.xor3 a b c).length = a.length := Crc.xor3_length a b c hb hc
  unfold mix
  rw [List.take_of_length_le (by omega)]; simp
set_option maxHeartbeats 1000000 in
theorem sums_any (a : Value) (la : List UInt8) (b : Value) (lb : List UInt8) (c : Value) (lc : List UInt8) (w : World) (hw : Halves w) (ha : Bytes w a la) (hb : Bytes w b lb) (hc : Bytes w c lc) :
    Calls Tryd.prog 5 #[a, b, c] w (LawEnd w) := by
  obtain ⟨aa, ca, rfl, ha'⟩ := id ha
  obtain ⟨ab, cb, rfl, hb'⟩ := id hb
  obtain ⟨ac, cc, rfl, hc'⟩ := id hc
  have hla := ha'.len
  have hlb := hb'.len
  have hlc := hc'.len
  by_cases h1 : 300 < la.length
  · clear ha' hb' hc'
    go_enter Tryd.func5, Tryd.ntmps5
    go_wp2_with (go_at_call 9; refine (awake_any _ hw).mono ?_; rintro e w1 ⟨rfl, e1⟩)
    go_ret
    exact ⟨rfl, e1⟩
  by_cases h2 : lb.length = la.length
  case neg =>
    have t2 : ((lb.length : Int) != (la.length : Int)) = true := by simp; omega
    clear ha' hb' hc'
    go_enter Tryd.func5, Tryd.ntmps5
    go_wp2_with (go_at_call 9; refine (awake_any _ hw).mono ?_; rintro e w1 ⟨rfl, e1⟩)
    go_ret
    exact ⟨rfl, e1⟩
  by_cases h3 : lc.length = la.length
  case neg =>
    have t3 : ((lc.length : Int) != (la.length : Int)) = true := by simp; omega
    have t2 : ((lb.length : Int) != (la.length : Int)) = false := by simp; omega
    clear ha' hb' hc' h2
    go_enter Tryd.func5, Tryd.ntmps5
    go_wp2_with (go_at_call 9; refine (awake_any _ hw).mono ?_; rintro e w1 ⟨rfl, e1⟩)
    go_ret
    exact ⟨rfl, e1⟩
  go_enter Tryd.func5, Tryd.ntmps5
  rw [h2, h3]
  have H2 := Lib.hid h2
  have H3 := Lib.hid h3
  clear h2 h3
  go_wp2_with (first
    | (go_at_call 9; refine (awake_any _ hw).mono ?_; rintro e w1 ⟨rfl, e1⟩; have o1 : OwnB (w1.alloc (.cells #[] 5)) w.heap.size (.slice (some ⟨w1.heap.size, 0, none⟩) 0 0) [] := OwnB.empty rfl e1.size)
    | (at_builtin; refine wpList_appendB rfl _ _ rfl w.heap.size _ [] rfl o1 _ la rfl (ha.ext (e1.alloc _)) (by simp; omega) (e1.alloc _).size ?_; intro v2 w2 o2 g2; have e2 := (e1.alloc _).own o1 g2; clear e1 o1 g2; rw [List.nil_append] at o2))
  go_loopw [9] (fun i wr => ∃ k : Nat, k ≤ la.length ∧ i = .int .i64 k ∧ OwnB wr w.heap.size v2 (mix la lb lc k) ∧ Ext w wr) (fun i _ => la.length - (intOf i).toNat)
  case atStart => exact ⟨0, Nat.zero_le _, rfl, by simpa [mix] using o2, e2⟩
  case round =>
    obtain ⟨k, hk, rfl, ok, ek⟩ := hrel
    have hml := mix_length la lb lc H2.out H3.out k
    by_cases hlt : k < la.length
    · obtain ⟨g, cap, hv, hg, hgs, hcell, hfr, hset⟩ := ok.cells (by omega)
      rw [hml] at hv
      subst hv
      obtain ⟨gb, ob, rfl, hcb⟩ := hb'.get k (by rw [H2.out]; exact hlt)
      obtain ⟨gc, oc, rfl, hcc⟩ := hc'.get k (by rw [H3.out]; exact hlt)
      have hcb2 := ek.cell hcb
      have hcc2 := ek.cell hcc
      have hca2 := hcell k (by omega)
      rw [mix_at la lb lc H2.out H3.out k hlt] at hca2
      have f0 := hfr k
      clear hcb hcc hcell hfr hml
      have HM := Lib.hid (mix_set la lb lc H2.out H3.out k hlt)
      generalize la.getD k 0 = xa at *
      generalize lb.getD k 0 = xb at *
      generalize lc.getD k 0 = xc at *
      go_wp2
      go_region
      go_wp2
      go_roundw
      case rel =>
        refine ⟨k + 1, by omega, by go_num, ?_, ?_⟩
        · rw [← HM.out]; exact (hset k (xr (xr xa xb) xc)).drew
        · exact (ek.setCell hg _).drew
      case measure => simp [intOf]; omega
    · obtain ⟨av, cv, hv, _⟩ := ok.shape
      rw [hml] at hv
      subst hv
      obtain rfl : k = la.length := by omega
      rw [mix_all la lb lc H2.out H3.out] at ok
      have q := Crc.sum_xor3 la lb lc H2.out H3.out
      go_wp2_with (first
        | (go_at_call 10; refine (of_any _ _ _ (hw.ext ek) ok.bytes).mono ?_; rintro e w' ⟨rfl, rfl⟩; have o4 := ok; clear ok)
        | (go_at_call 10; refine (of_any _ _ _ (hw.ext ek) (ha.ext ek)).mono ?_; rintro e w' ⟨rfl, rfl⟩; clear ha)
        | (go_at_call 10; rw [H2.out] at hb; refine (of_any _ _ _ (hw.ext ek) (hb.ext ek)).mono ?_; rintro e w' ⟨rfl, rfl⟩; clear hb)
        | (go_at_call 10; rw [H3.out] at hc; refine (of_any _ _ _ (hw.ext ek) (hc.ext ek)).mono ?_; rintro e w' ⟨rfl, rfl⟩))
      go_ret
      exact ⟨rfl, ek⟩
end Go.Proofs.YtjfijjiknoociaaDoor
