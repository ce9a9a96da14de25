/- TicketFinds, walked. -/
import Derived.Test.YtkpcdbalhpmpmaaDoorTicketU
import Derived.Test.YtkpcdbalhpmpmaaDoorTicketO
import Derived.Deep.RegionWith
namespace Go.Proofs.YtkpcdbalhpmpmaaDoor
open Go.RowKit

theorem kindB_kind (c : UInt8) (x : BitVec 64) : ∃ k n, Tk.isKind k ∧ n < 2 ^ 64 ∧ Tk.nameI (1 + (c.toNat : Int) % 6) x.toNat = Tk.name k n :=
  ⟨_, _, Tk.okK_kind (kindB_ok c), x.isLt, Tk.nameI_ok (kindB_ok c) _⟩
theorem str_snoc_clean {S : List UInt8} {L : List (List UInt8)} (h : Tk.Finds S L) (c : UInt8) (hc : (c.toNat : Int) < 65 ∨ 90 < (c.toNat : Int)) : Tk.Finds (S ++ [c]) L := h.clean c (by omega)

set_option maxRecDepth 20000 in
set_option maxHeartbeats 8000000 in
theorem finds_any (vk : Value) (ks : List UInt8) (vd : Value) (ds : List (BitVec 64)) (vb : Value) (bs : List (List UInt8)) (w : World) (hw : Pres w) (hk : Bytes w vk ks) (hd : Sl uv w vd ds) (hb : Sl sv w vb bs) :
    Calls Tryd.prog 4 #[vk, vd, vb] w fun e w' => e = .returned (.bool true) ∧ Ext w w' := by
  have e0 := Ext.refl w
  obtain ⟨ak, ck, rfl, hk⟩ := hk
  obtain ⟨ad, cd, rfl, hd⟩ := hd
  obtain ⟨ab, cb, rfl, hb⟩ := hb
  have lk := hk.len
  have ld := hd.len
  have lb := hb.len
  by_cases h10 : ds.length ≤ 10
  · by_cases hkd : ds.length ≤ ks.length
    · by_cases hbd : ds.length ≤ bs.length
      · have d1 : decide (ks.length < ds.length) = false := by rw [decide_eq_false_iff_not]; omega
        have d2 : decide (bs.length < ds.length) = false := by rw [decide_eq_false_iff_not]; omega
        have d3 : decide ((10 : Int) < (ds.length : Int)) = false := by rw [decide_eq_false_iff_not]; omega
        go_enter Tryd.func4, Tryd.ntmps4
        go_wp2_with (go_at_call 13; refine (awake_any _ hw).mono ?_; rintro e w' ⟨rfl, h⟩; have e0 := e0.trans h)
        go_loopw [8, 9, 10] (fun want s i wr => ∃ (k : Nat) (S : List UInt8) (L : List (List UInt8)), k ≤ ds.length ∧ i = .int .i64 k ∧ s = .string (str S) ∧ S.length ≤ 44 * k ∧ L.length = k ∧ Own sv 9 wr w.heap.size want L ∧ Ext w wr ∧ RowKit.Hid (Tk.Finds S L)) (fun _ _ i _ => ds.length - (intOf i).toNat)
        case atStart => exact ⟨0, [], [], Nat.zero_le _, rfl, rfl, by simp, rfl, Own.nil _ _ _, e0, Lib.hid Tk.Finds.nil⟩
        case round =>
          obtain ⟨k, S, L, hk0, rfl, rfl, hS, hL, ho, ek, hF⟩ := hrel
          by_cases hlt : k < ds.length
          · obtain ⟨b, hbk⟩ : ∃ b, bs[k]? = some b := ⟨bs[k]'(by omega), List.getElem?_eq_getElem (by omega)⟩
            obtain ⟨gb, ob, rfl, cellb⟩ := (hb.ext ek).cells k b hbk
            unfold sv at cellb
            by_cases h20 : b.length ≤ 20
            · have d4 : decide ((20 : Int) < (b.length : Int)) = false := by rw [decide_eq_false_iff_not]; omega
              obtain ⟨c0, hc0⟩ : ∃ c0, c0 = ks.getD k 0 := ⟨_, rfl⟩
              obtain ⟨gk, ok, rfl, cellk⟩ := (hk.ext ek).get k (by omega)
              rw [← hc0] at cellk
              clear hc0
              have hcl0 := byte_lt c0
              obtain ⟨x, hx⟩ : ∃ x, ds[k]? = some x := ⟨ds[k], List.getElem?_eq_getElem hlt⟩
              obtain ⟨gd, od, rfl, celld⟩ := (hd.ext ek).cells k x hx
              unfold uv at celld
              clear hx hbk
              go_wp2
              go_loopw [9, 11] (fun s j wq => ∃ (m : Nat) (T : List UInt8), m ≤ b.length ∧ j = .int .i64 m ∧ s = .string (str T) ∧ T.length ≤ S.length + 1 + m ∧ Ext wr wq ∧ RowKit.Hid (Tk.Finds T L)) (fun _ j _ => b.length - (intOf j).toNat)
              case atStart => exact ⟨0, S ++ [32], Nat.zero_le _, rfl, rfl, by simp, Ext.refl _, Lib.hid (str_snoc_clean hF.out 32 (by decide))⟩
              case round =>
                obtain ⟨m, T, hm, rfl, rfl, hT, eq, hFT⟩ := hrel
                have cellb := eq.cell cellb
                by_cases hmb : m < b.length
                · obtain ⟨c, hc⟩ : ∃ c, byteAt b m = c := ⟨_, rfl⟩
                  have hcl := byte_lt c
                  have hc0 : (0 : Int) ≤ (c.toNat : Int) := by omega
                  have hcv : ∀ W : World, (convert 31 9 (.slice (some ⟨W.heap.size, 0, none⟩) 1 1)).run Tryd.prog (W.alloc (.cells #[.int .u8 (c.toNat : Int)] 5)) = .ok (.string (str [c])) (W.alloc (.cells #[.int .u8 (c.toNat : Int)] 5)) := fun W => conv_bytes (Bytes.lit rfl rfl rfl (Nat.le_refl 1) (by decide))
                  have hcase : ((c.toNat : Int) < 45) ∨ ((c.toNat : Int) = 45) ∨ ((45 : Int) < c.toNat ∧ (c.toNat : Int) < 48) ∨ ((48 : Int) ≤ c.toNat ∧ (c.toNat : Int) ≤ 57) ∨ ((57 : Int) < c.toNat ∧ (c.toNat : Int) < 65) ∨ ((65 : Int) ≤ c.toNat ∧ (c.toNat : Int) ≤ 90) ∨ ((90 : Int) < c.toNat ∧ (c.toNat : Int) < 97) ∨ ((97 : Int) ≤ c.toNat ∧ (c.toNat : Int) ≤ 102) ∨ ((102 : Int) < c.toNat) := by omega
                  rcases hcase with h1 | h1 | ⟨h1, h2⟩ | ⟨h1, h2⟩ | ⟨h1, h2⟩ | ⟨h1, h2⟩ | ⟨h1, h2⟩ | ⟨h1, h2⟩ | h1
                  · have hne : ((c.toNat : Int) != 45) = true := by rw [bne_iff_ne]; omega
                    have hF2 := Lib.hid (str_snoc_clean hFT.out c (by omega))
                    go_wp2
                    go_roundw
                    case rel => first | exact ⟨m + 1, by omega, by omega, T ++ [c], rfl, by simp; omega, eq.alloc _, hF2⟩ | exact ⟨m + 1, T ++ [c], by omega, by go_num, rfl, by simp; omega, eq.alloc _, hF2⟩ | ((repeat apply Exists.intro); exact ⟨⟨m + 1, T ++ [c], by omega, by go_num, rfl, by simp; omega, eq.alloc _, hF2⟩, rfl⟩)
                    case measure => simp [intOf]; omega
                  · have hne : ((c.toNat : Int) != 45) = false := by simp [h1]
                    go_wp2
                    go_roundw
                    case rel => first | exact ⟨m + 1, by omega, by omega, T, rfl, by omega, eq, hFT⟩ | exact ⟨m + 1, T, by omega, by go_num, rfl, by omega, eq, hFT⟩ | ((repeat apply Exists.intro); exact ⟨⟨m + 1, T, by omega, by go_num, rfl, by omega, eq, hFT⟩, rfl⟩)
                    case measure => simp [intOf]; omega
                  · have hne : ((c.toNat : Int) != 45) = true := by rw [bne_iff_ne]; omega
                    have hF2 := Lib.hid (str_snoc_clean hFT.out c (by omega))
                    go_wp2
                    go_roundw
                    case rel => first | exact ⟨m + 1, by omega, by omega, T ++ [c], rfl, by simp; omega, eq.alloc _, hF2⟩ | exact ⟨m + 1, T ++ [c], by omega, by go_num, rfl, by simp; omega, eq.alloc _, hF2⟩ | ((repeat apply Exists.intro); exact ⟨⟨m + 1, T ++ [c], by omega, by go_num, rfl, by simp; omega, eq.alloc _, hF2⟩, rfl⟩)
                    case measure => simp [intOf]; omega
                  · go_wp2
                    go_roundw
                    case rel => first | exact ⟨m + 1, by omega, by omega, T, rfl, by omega, eq, hFT⟩ | exact ⟨m + 1, T, by omega, by go_num, rfl, by omega, eq, hFT⟩ | ((repeat apply Exists.intro); exact ⟨⟨m + 1, T, by omega, by go_num, rfl, by omega, eq, hFT⟩, rfl⟩)
                    case measure => simp [intOf]; omega
                  · have hne : ((c.toNat : Int) != 45) = true := by rw [bne_iff_ne]; omega
                    have hF2 := Lib.hid (str_snoc_clean hFT.out c (by omega))
                    go_wp2
                    go_roundw
                    case rel => first | exact ⟨m + 1, by omega, by omega, T ++ [c], rfl, by simp; omega, eq.alloc _, hF2⟩ | exact ⟨m + 1, T ++ [c], by omega, by go_num, rfl, by simp; omega, eq.alloc _, hF2⟩ | ((repeat apply Exists.intro); exact ⟨⟨m + 1, T ++ [c], by omega, by go_num, rfl, by simp; omega, eq.alloc _, hF2⟩, rfl⟩)
                    case measure => simp [intOf]; omega
                  · have hne : ((c.toNat : Int) != 45) = true := by rw [bne_iff_ne]; omega
                    go_wp2
                    go_roundw
                    case rel => first | exact ⟨m + 1, by omega, by omega, T, rfl, by omega, eq, hFT⟩ | exact ⟨m + 1, T, by omega, by go_num, rfl, by omega, eq, hFT⟩ | ((repeat apply Exists.intro); exact ⟨⟨m + 1, T, by omega, by go_num, rfl, by omega, eq, hFT⟩, rfl⟩)
                    case measure => simp [intOf]; omega
                  · have hne : ((c.toNat : Int) != 45) = true := by rw [bne_iff_ne]; omega
                    have hF2 := Lib.hid (str_snoc_clean hFT.out c (by omega))
                    go_wp2
                    go_roundw
                    case rel => first | exact ⟨m + 1, by omega, by omega, T ++ [c], rfl, by simp; omega, eq.alloc _, hF2⟩ | exact ⟨m + 1, T ++ [c], by omega, by go_num, rfl, by simp; omega, eq.alloc _, hF2⟩ | ((repeat apply Exists.intro); exact ⟨⟨m + 1, T ++ [c], by omega, by go_num, rfl, by simp; omega, eq.alloc _, hF2⟩, rfl⟩)
                    case measure => simp [intOf]; omega
                  · go_wp2
                    go_roundw
                    case rel => first | exact ⟨m + 1, by omega, by omega, T, rfl, by omega, eq, hFT⟩ | exact ⟨m + 1, T, by omega, by go_num, rfl, by omega, eq, hFT⟩ | ((repeat apply Exists.intro); exact ⟨⟨m + 1, T, by omega, by go_num, rfl, by omega, eq, hFT⟩, rfl⟩)
                    case measure => simp [intOf]; omega
                  · have hne : ((c.toNat : Int) != 45) = true := by rw [bne_iff_ne]; omega
                    have hF2 := Lib.hid (str_snoc_clean hFT.out c (by omega))
                    go_wp2
                    go_roundw
                    case rel => first | exact ⟨m + 1, by omega, by omega, T ++ [c], rfl, by simp; omega, eq.alloc _, hF2⟩ | exact ⟨m + 1, T ++ [c], by omega, by go_num, rfl, by simp; omega, eq.alloc _, hF2⟩ | ((repeat apply Exists.intro); exact ⟨⟨m + 1, T ++ [c], by omega, by go_num, rfl, by simp; omega, eq.alloc _, hF2⟩, rfl⟩)
                    case measure => simp [intOf]; omega
                · obtain rfl : m = b.length := by omega
                  have cellk := eq.cell cellk
                  have celld := eq.cell celld
                  go_wp2
                  go_region_with (first | (go_at_call 14; refine (name_any _ _ _ (hw.ext ((ek.trans eq).drew))).mono ?_; rintro e w' ⟨rfl, h⟩))
                  all_goals
                    have hnl := name_len (1 + (c0.toNat : Int) % 6) x.toNat
                    have hF2 : RowKit.Hid (Tk.Finds (T ++ Tk.nameI (1 + (c0.toNat : Int) % 6) x.toNat) (L ++ [Tk.nameI (1 + (c0.toNat : Int) % 6) x.toNat])) := by
                      obtain ⟨q, n, hq, hn, e⟩ := kindB_kind c0 x
                      rw [e]
                      exact Lib.hid (hFT.out.name hq hn)
                    obtain ⟨nm, hnm⟩ : ∃ nm, Tk.nameI (1 + (c0.toNat : Int) % 6) x.toNat = nm := ⟨_, rfl⟩
                    rw [hnm] at hnl hF2
                    go_wp2_with (at_builtin; refine wpList_appendS (z := .string ⟨#[]⟩) (bytes := 16) Tryd.underlying28 (by kernel_rfl) rfl sv_one rfl _ _ rfl w.heap.size _ L rfl ((((ho.ext eq).drew).ext h).alloc _) _ [nm] rfl (Sl.lit (by rfl) rfl rfl (Nat.le_refl 1) (by decide)) (by simp; omega) (by simp; omega) (((((ek.trans eq).drew).trans h).alloc _).size) ?_; intro v' w' g1 g2)
                    go_roundw
                    case rel => first | exact ⟨k + 1, T ++ nm, L ++ [nm], by omega, by go_num, rfl, by simp; omega, by simp; omega, g1, Ext.owns ((((ek.trans eq).drew).trans h).alloc _) ((((ho.ext eq).drew).ext h).alloc _) g2, hF2⟩ | ((repeat apply Exists.intro); exact ⟨⟨k + 1, T ++ nm, L ++ [nm], by omega, by go_num, rfl, by simp; omega, by simp; omega, g1, Ext.owns ((((ek.trans eq).drew).trans h).alloc _) ((((ho.ext eq).drew).ext h).alloc _) g2, hF2⟩, rfl⟩)
                    case measure => simp [intOf]; omega
            · go_wp2
              go_ret
              exact ⟨rfl, ek⟩
          · obtain rfl : k = ds.length := by omega
            have hfin := Tk.teq_true.2 hF.out.all
            go_wp2_with (first
              | (go_at_call 16; refine (find_any _ (by omega) _ (hw.ext ek)).mono ?_; rintro e w' ⟨v, rfl, sA, h⟩)
              | (go_at_call 15; refine (texts_any _ _ _ L _ sA ((ho.sl).ext h)).mono ?_; rintro e w' ⟨rfl, h5⟩))
            go_ret
            exact ⟨rfl, (ek.trans h).trans h5⟩
      · go_enter Tryd.func4, Tryd.ntmps4
        go_wp2_with (go_at_call 13; refine (awake_any _ hw).mono ?_; rintro e w' ⟨rfl, h⟩; have e0 := e0.trans h)
        go_ret
        exact ⟨rfl, e0⟩
    · go_enter Tryd.func4, Tryd.ntmps4
      go_wp2_with (go_at_call 13; refine (awake_any _ hw).mono ?_; rintro e w' ⟨rfl, h⟩; have e0 := e0.trans h)
      go_ret
      exact ⟨rfl, e0⟩
  · go_enter Tryd.func4, Tryd.ntmps4
    go_wp2_with (go_at_call 13; refine (awake_any _ hw).mono ?_; rintro e w' ⟨rfl, h⟩; have e0 := e0.trans h)
    go_ret
    exact ⟨rfl, e0⟩
end Go.Proofs.YtkpcdbalhpmpmaaDoor
