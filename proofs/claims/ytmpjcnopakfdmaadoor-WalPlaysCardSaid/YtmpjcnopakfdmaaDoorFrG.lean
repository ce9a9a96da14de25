/- The document's Put and All: contracts. -/
import Derived.Test.YtmpjcnopakfdmaaDoorFrF
import Derived.Test.YtmpjcnopakfdmaaDoorCrcRef
import Derived.Deep.DeepCutAuto
import Derived.Deep.CutBlock
namespace Go.Proofs.YtmpjcnopakfdmaaDoor
set_option linter.unusedVariables false
set_option linter.unusedSimpArgs false
open Go.RowKit Fr

/-! ### a sum by its quotients -/
theorem quo_U (x : BitVec 32) (n k : Nat) (h0 : 0 < n) (hn : n = 2 ^ k) : Op.intDiv .quo .u32 (U x) (n : Int) = pure (.int .u32 (U (x >>> k))) := by
  have h := U_lo x
  have h2 := U_hi x
  unfold Op.intDiv
  rw [if_neg (by omega)]
  show pure (Value.int .u32 (IntKind.u32.wrap ((U x).tdiv (n : Int)))) = _
  have e : (U x).tdiv (n : Int) = U (x >>> k) := by
    rw [Int.tdiv_eq_ediv_of_nonneg h]
    unfold U
    rw [BitVec.toNat_ushiftRight, Nat.shiftRight_eq_div_pow, hn]
    omega
  rw [e, U_wrapU]
@[go_sem ↓] theorem quo_a (x : BitVec 32) : Op.intDiv .quo .u32 (U x) 16777216 = pure (.int .u32 (U (x >>> 24))) := quo_U x 16777216 24 (by decide) (by decide)
@[go_sem ↓] theorem quo_b (x : BitVec 32) : Op.intDiv .quo .u32 (U x) 65536 = pure (.int .u32 (U (x >>> 16))) := quo_U x 65536 16 (by decide) (by decide)
@[go_sem ↓] theorem quo_c (x : BitVec 32) : Op.intDiv .quo .u32 (U x) 256 = pure (.int .u32 (U (x >>> 8))) := quo_U x 256 8 (by decide) (by decide)
@[go_sem ↓] theorem quo_d (x : BitVec 32) : Op.intDiv .quo .u32 (U x) 1 = pure (.int .u32 (U x)) := by
  have := quo_U x 1 0 (by decide) (by decide)
  simpa using this
@[go_sem ↓] theorem rem_256 (x : BitVec 32) : Op.intDiv .rem .u32 (U x) 256 = pure (.int .u32 ((b8 x.toNat).toNat : Int)) := by
  have h := U_lo x
  unfold Op.intDiv
  rw [if_neg (by decide)]
  show pure (Value.int .u32 ((U x).tmod 256)) = _
  rw [Int.tmod_eq_emod_of_nonneg h, b8_toNat]
  unfold U
  rw [show ((x.toNat % 256 : Nat) : Int) = (x.toNat : Int) % 256 by omega]
theorem lit_b8 {n m : Nat} (h : n = m) : (#[Value.int .u8 (((b8 n).toNat : Int) % 256)] : Array Value).toList = [b8 m].map u8v := by
  subst h
  have := (b8 n).toNat_lt
  show [Value.int .u8 (((b8 n).toNat : Int) % 256)] = [Value.int .u8 ((b8 n).toNat : Int)]
  rw [show ((b8 n).toNat : Int) % 256 = ((b8 n).toNat : Int) by omega]
/-- the scales -/
def scl : Nat → Int
  | 0 => 16777216
  | 1 => 65536
  | 2 => 256
  | 3 => 1
  | _ => 0
set_option maxHeartbeats 2000000 in
theorem rput_any (v : Value) (l : List UInt8) (w : World) (hb : Bytes w v l) :
    Calls Tryd.prog 15 #[v] w (Ret fun r w' => ∃ x, r = .tuple #[x, .int .i64 (errOf l)] ∧ Ext w w' ∧ ((errOf l = 0 ∧ OwnB w' w.heap.size x (frm l)) ∨ (errOf l ≠ 0 ∧ x = .slice none 0 0))) := by
  obtain ⟨a, cap, rfl, -⟩ := id hb
  have e0 := Ext.refl w
  by_cases h0 : l.length = 0
  · have hE := Lib.hid (show errOf l = 1 from by unfold errOf; rw [if_pos h0])
    clear hb
    rw [h0]
    go_enter Tryd.func15, Tryd.ntmps15
    go_wp2
    go_ret2
    exact Ret.mk ⟨_, by rw [hE.out]; rfl, e0, .inr ⟨by rw [hE.out]; decide, rfl⟩⟩
  have q0 : ((l.length : Int) == 0) = false := by rw [beq_eq_false_iff_ne]; omega
  by_cases h1 : 4000 < l.length
  · have hE := Lib.hid (show errOf l = 2 from by unfold errOf; rw [if_neg h0, if_pos h1])
    clear hb
    go_enter Tryd.func15, Tryd.ntmps15
    go_wp2
    go_ret2
    exact Ret.mk ⟨_, by rw [hE.out]; rfl, e0, .inr ⟨by rw [hE.out]; decide, rfl⟩⟩
  have hE := Lib.hid (show errOf l = 0 from by unfold errOf; rw [if_neg h0, if_neg h1])
  have hq1 : wrap64 ((l.length : Int) / 256) = (l.length : Int) / 256 := by unfold wrap64; omega
  have hq2 : IntKind.i64.wrap ((l.length : Int) / 256) = (l.length : Int) / 256 := by rw [IntKind.wrap_i64]; omega
  have hc1 : IntKind.u8.wrap ((l.length : Int) / 256) = ((b8 (l.length / 256)).toNat : Int) := by rw [IntKind.wrap_u8, b8_toNat]; omega
  have hc2 : IntKind.u8.wrap ((l.length : Int) % 256) = ((b8 l.length).toNat : Int) := by rw [IntKind.wrap_u8, b8_toNat]; omega
  have hF := Lib.hid (show frm l = (hd2 l.length ++ (sum4 (sumOf l)).take 4) ++ l from rfl)
  have hS := Lib.hid (show Crc.sum (hd2 l.length ++ l) = sumOf l from rfl)
  have hbh := Lib.hid hb
  have hl4 : l.length ≤ 4000 := by omega
  have hD := Lib.hid (show hd2 l.length = [b8 (l.length / 256), b8 l.length] from rfl)
  have hDl := Lib.hid (show (hd2 l.length).length = 2 from rfl)
  have h4 := Lib.hid (show ∀ s : BitVec 32, sum4 s = [b8 (s >>> 24).toNat, b8 (s >>> 16).toNat, b8 (s >>> 8).toNat, b8 s.toNat] from fun s => rfl)
  clear hb h0 h1
  generalize hd2 l.length = D at *
  generalize sumOf l = S at *
  go_enter Tryd.func15, Tryd.ntmps15
  go_upto_region 7 with fail
  have o0 : OwnB (w.alloc (.cells #[.int .u8 ((b8 (l.length / 256)).toNat : Int), .int .u8 ((b8 l.length).toNat : Int)] 5)) w.heap.size (.slice (some ⟨w.heap.size, 0, none⟩) 2 2) D := OwnB.lit rfl (by rw [hD.out]; rfl) (by rw [hDl.out]) (by decide) (Nat.le_refl _)
  have hw1 := (Ext.refl w).alloc (.cells #[.int .u8 ((b8 (l.length / 256)).toNat : Int), .int .u8 ((b8 l.length).toNat : Int)] 5)
  generalize w.alloc (.cells #[.int .u8 ((b8 (l.length / 256)).toNat : Int), .int .u8 ((b8 l.length).toNat : Int)] 5) = w1 at *
  go_upto_block 0 with (first
    | (at_builtin; refine wpList_appendB rfl (.tmp 21) (.tmp 22) rfl w1.heap.size _ [] rfl (OwnB.empty rfl (Nat.le_refl _)) _ D rfl (o0.bytes.ext ((Ext.refl w1).alloc _)) (by have := hDl.out; simp; omega) ((Ext.refl w1).alloc _).size ?_; intro v2 w2 o2 g2; have e2 := ((Ext.refl w1).alloc (.cells #[] 5)).grown g2 fun k hk => by cases hk; exact Nat.le_refl _)
    | (at_builtin; go_must (refine wpList_appendB rfl (.tmp 23) (.tmp 24) rfl w1.heap.size _ ([] ++ D) rfl o2 _ l rfl (hbh.out.ext (hw1.trans e2)) (by have := hDl.out; simp; omega) e2.size ?_); intro v3 w3 o3 g3)
    | (go_at_call 49; refine (refOf_any _ _ _ o3.bytes).mono ?_; rintro e w4 ⟨rfl, e4⟩; go_wp2_with fail))
  rw [hS.out]
  have o5 := Lib.hid (show OwnB w4 w.heap.size (.slice (some ⟨w.heap.size, 0, none⟩) 2 2) (D ++ (sum4 S).take 0) from by
    rw [List.take_zero, List.append_nil]
    exact o0.ext ((e2.own o2 g3).trans e4))
  have e5 : Ext w w4 := (hw1.trans (e2.own o2 g3)).trans e4
  clear o0 o2 o3 g2 g3 e2 e4 hw1
  go_loopw [5, 7] (fun o sc wr => ∃ j : Nat, j ≤ 4 ∧ sc = .int .u32 (scl j) ∧ RowKit.Hid (OwnB wr w.heap.size o (D ++ (sum4 S).take j)) ∧ Ext w wr) (fun _ sc _ => (intOf sc).toNat)
  case atStart => exact ⟨0, by omega, rfl, o5, e5⟩
  case round =>
    obtain ⟨j, hj, rfl, ho, ek⟩ := hrel
    obtain ⟨ao, co, rfl, -⟩ := ho.out.bytes
    have hsz := Lib.hid (show (D ++ (sum4 S).take j).length ≤ 6 from by rw [List.length_append, hDl.out, List.length_take]; have := sum4_length S; omega)
    have ekh := Lib.hid ek
    have hnx := Lib.hid (fun (y : UInt8) (hy : (sum4 S)[j]? = some y) => (show D ++ (sum4 S).take (j + 1) = (D ++ (sum4 S).take j) ++ [y] from by rw [List.take_add_one, hy, List.append_assoc]; rfl))
    have hx : j = 0 ∨ j = 1 ∨ j = 2 ∨ j = 3 ∨ j = 4 := by omega
    rcases hx with rfl | rfl | rfl | rfl | rfl
    · have hn2 := Lib.hid (hnx.out (b8 (S >>> 24).toNat) (by rw [h4.out]; rfl))
      have hs0 : scl 0 = 16777216 := rfl
      clear hnx ek
      go_wp2_with (at_builtin; go_must (refine wpList_appendB rfl _ _ rfl w.heap.size _ (D ++ (sum4 S).take 0) rfl (ho.out.ext ((Ext.refl wr).alloc _)) _ [b8 (S >>> 24).toNat] rfl (Bytes.lit rfl (lit_b8 (by simp)) rfl (Nat.le_refl _) (show 1 ≤ maxLen by decide)) (by have := hsz.out; simp at this ⊢; omega) (Nat.le_trans ekh.out.size ((Ext.refl wr).alloc _).size) ?_); intro v6 w6 o6 g6)
      go_roundw
      case rel => exact ⟨1, by omega, rfl, Lib.hid (by rw [hn2.out]; exact o6), (ekh.out.alloc _).own (ho.out.ext ((Ext.refl wr).alloc _)) g6⟩
      case measure => decide
    · have hn2 := Lib.hid (hnx.out (b8 (S >>> 16).toNat) (by rw [h4.out]; rfl))
      have hs0 : scl 1 = 65536 := rfl
      clear hnx ek
      go_wp2_with (at_builtin; go_must (refine wpList_appendB rfl _ _ rfl w.heap.size _ (D ++ (sum4 S).take 1) rfl (ho.out.ext ((Ext.refl wr).alloc _)) _ [b8 (S >>> 16).toNat] rfl (Bytes.lit rfl (lit_b8 (by simp)) rfl (Nat.le_refl _) (show 1 ≤ maxLen by decide)) (by have := hsz.out; simp at this ⊢; omega) (Nat.le_trans ekh.out.size ((Ext.refl wr).alloc _).size) ?_); intro v6 w6 o6 g6)
      go_roundw
      case rel => exact ⟨2, by omega, rfl, Lib.hid (by rw [hn2.out]; exact o6), (ekh.out.alloc _).own (ho.out.ext ((Ext.refl wr).alloc _)) g6⟩
      case measure => decide
    · have hn2 := Lib.hid (hnx.out (b8 (S >>> 8).toNat) (by rw [h4.out]; rfl))
      have hs0 : scl 2 = 256 := rfl
      clear hnx ek
      go_wp2_with (at_builtin; go_must (refine wpList_appendB rfl _ _ rfl w.heap.size _ (D ++ (sum4 S).take 2) rfl (ho.out.ext ((Ext.refl wr).alloc _)) _ [b8 (S >>> 8).toNat] rfl (Bytes.lit rfl (lit_b8 (by simp)) rfl (Nat.le_refl _) (show 1 ≤ maxLen by decide)) (by have := hsz.out; simp at this ⊢; omega) (Nat.le_trans ekh.out.size ((Ext.refl wr).alloc _).size) ?_); intro v6 w6 o6 g6)
      go_roundw
      case rel => exact ⟨3, by omega, rfl, Lib.hid (by rw [hn2.out]; exact o6), (ekh.out.alloc _).own (ho.out.ext ((Ext.refl wr).alloc _)) g6⟩
      case measure => decide
    · have hn2 := Lib.hid (hnx.out (b8 S.toNat) (by rw [h4.out]; rfl))
      have hs0 : scl 3 = 1 := rfl
      clear hnx ek
      go_wp2_with (at_builtin; go_must (refine wpList_appendB rfl _ _ rfl w.heap.size _ (D ++ (sum4 S).take 3) rfl (ho.out.ext ((Ext.refl wr).alloc _)) _ [b8 S.toNat] rfl (Bytes.lit rfl (lit_b8 (by simp)) rfl (Nat.le_refl _) (show 1 ≤ maxLen by decide)) (by have := hsz.out; simp at this ⊢; omega) (Nat.le_trans ekh.out.size ((Ext.refl wr).alloc _).size) ?_); intro v6 w6 o6 g6)
      go_roundw
      case rel => exact ⟨4, by omega, rfl, Lib.hid (by rw [hn2.out]; exact o6), (ekh.out.alloc _).own (ho.out.ext ((Ext.refl wr).alloc _)) g6⟩
      case measure => decide
    · have hs0 : scl 4 = 0 := rfl
      have hfin := Lib.hid (show (D ++ (sum4 S).take 4) ++ l = frm l from hF.out.symm)
      clear hnx ek
      go_wp2_with (at_builtin; go_must (refine wpList_appendB rfl _ _ rfl w.heap.size _ (D ++ (sum4 S).take 4) rfl ho.out _ l rfl (hbh.out.ext ekh.out) (by have := hsz.out; omega) ekh.out.size ?_); intro v6 w6 o6 g6)
      go_ret2
      exact Ret.mk ⟨_, by rw [hE.out]; rfl, ekh.out.own ho.out g6, .inl ⟨hE.out, by rw [← hfin.out]; exact o6⟩⟩
set_option maxHeartbeats 1000000 in
theorem rall_any (v : Value) (ls : List (List UInt8)) (w : World) (hv : LL w v ls) (hn : ls.length ≤ 30000000000) :
    Calls Tryd.prog 17 #[v] w (Ret fun r w' => ∃ x, r = .tuple #[x, .int .i64 (errAll ls)] ∧ Ext w w' ∧ ((errAll ls = 0 ∧ OwnB w' w.heap.size x (all ls)) ∨ (errAll ls ≠ 0 ∧ x = .slice none 0 0))) := by
  obtain ⟨a, cap, rfl, -, hget⟩ := hv.get
  have hgh := Lib.hid hget
  clear hget hv
  go_enter Tryd.func17, Tryd.ntmps17
  go_wp2
  go_loopw [4, 5] (fun o i wr => ∃ k : Nat, k ≤ ls.length ∧ i = .int .i64 (k : Int) ∧ RowKit.Hid (errAll (ls.take k) = 0) ∧ RowKit.Hid (OwnB wr w.heap.size o (all (ls.take k))) ∧ Ext w wr) (fun _ i _ => ls.length - (intOf i).toNat)
  case atStart => exact ⟨0, Nat.zero_le _, rfl, Lib.hid rfl, Lib.hid (by exact World.ownsRow_nil w w.heap.size _ 1), Ext.refl w⟩
  case round =>
    obtain ⟨k, hk, rfl, he, ho, ek⟩ := hrel
    by_cases hlt : k < ls.length
    · obtain ⟨g, o', b, c, rfl, c1, hb⟩ := hgh.out k hlt
      have d1 := ek.cell c1
      have hput := rput_any _ _ wr (hb.ext ek)
      have hok := Lib.hid (errAll_ok1 hlt he.out)
      have hbad := Lib.hid (errAll_bad1 hlt he.out)
      have hall := Lib.hid (show all (ls.take (k + 1)) = all (ls.take k) ++ frm ls[k] from by rw [take_snoc hlt, all_append]; show _ ++ (frm ls[k] ++ []) = _; rw [List.append_nil])
      have hsz := Lib.hid (show (all (ls.take k)).length + (4006 : Nat) ≤ 140737488355328 from by
        have h1 := size_oks _ (errAll_ok.1 he.out)
        rw [List.length_take] at h1
        rw [all_length]
        omega)
      have hki : (k : Int) < (ls.length : Int) := by omega
      have hwr : IntKind.i64.wrap ((k : Int) + 1) = (k : Int) + 1 := by rw [IntKind.wrap_i64]; omega
      clear c1 hb
      generalize ls[k] = x at *
      obtain ⟨ao, co, rfl, -⟩ := ho.out.bytes
      by_cases hx : errOf x = 0
      · have hok2 := Lib.hid (hok.out hx)
        have hxl := Lib.hid (Fr.ok_iff.1 (errOf_ok.1 hx)).2
        rw [hx] at hput
        clear hok hbad
        go_wp2_with (first
          | (go_at_call 15; refine hput.mono ?_; rintro e w1 ⟨r, rfl, x1, rfl, e1, ⟨-, hx1⟩ | ⟨hx1, -⟩⟩; rotate_left; exact absurd rfl hx1)
          | (at_builtin; go_must (refine wpList_appendB rfl _ _ rfl w.heap.size _ (all (ls.take k)) rfl (ho.out.ext e1) _ (frm x) rfl hx1.bytes (by have := hsz.out; have := hxl.out; rw [frm_length]; omega) (by have := ek.size; have := e1.size; omega) ?_); intro v2 w2 o2 g2))
        go_roundw
        case rel => exact ⟨k + 1, by omega, by go_num, hok2, Lib.hid (by rw [hall.out]; exact o2), (ek.trans e1).own (ho.out.ext e1) g2⟩
        case measure => simp [intOf]; omega
      · have hE := Lib.hid (hbad.out hx)
        have q : (errOf x != 0) = true := by simp [hx]
        have hxh := Lib.hid hx
        clear hok hbad hx
        go_wp2_with (go_at_call 15; refine hput.mono ?_; rintro e w1 ⟨r, rfl, x1, rfl, e1, -⟩)
        go_ret2
        exact Ret.mk ⟨_, by rw [hE.out]; rfl, ek.trans e1, .inr ⟨by rw [hE.out]; exact hxh.out, rfl⟩⟩
    · obtain rfl : k = ls.length := by omega
      have heh := Lib.hid (show errAll ls = 0 from by have := he.out; rwa [List.take_length] at this)
      have hoh := ho.out
      rw [List.take_length] at hoh
      have hoh := Lib.hid hoh
      go_wp2
      go_ret2
      exact Ret.mk ⟨_, by rw [heh.out]; rfl, ek, .inl ⟨heh.out, hoh.out⟩⟩
end Go.Proofs.YtmpjcnopakfdmaaDoor
