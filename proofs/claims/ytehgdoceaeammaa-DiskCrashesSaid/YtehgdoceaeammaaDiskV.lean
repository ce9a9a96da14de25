/- DiskCrashes, walked. -/
import Derived.Test.YtehgdoceaeammaaDiskU
import Derived.Test.YtehgdoceaeammaaLL
import Derived.Deep.DeepCutAuto
import Derived.Deep.CutBlock
namespace Go.Proofs.Ytehgdoceaeammaa
open Go.RowKit Dk

def seg (a b : Nat) : Nat → Prop := fun k => a ≤ k ∧ k < b
theorem DiskN.seg {w0 w : World} {p : Nat} {d : D} (h : DiskN w0 w p d) : Disk w (seg w0.heap.size w.heap.size) p d := h.2.bound
theorem Chg.toExtOf {a w w' : World} {F : Nat → Prop} (h : Ext a w) (c : Chg F w w') (hF : ∀ k, F k → a.heap.size ≤ k) : Ext a w' := h.chg c hF
theorem faults_off (d : D) : (faults [] d).off = d.off := rfl
def out5 (a b : Nat) : Nat → Prop := fun k => ¬ (a ≤ k ∧ k < b)
def blks (d : D) (k : Nat) : List (List UInt8) := (List.range k).map fun i : Nat => rdB (i : Int) d
theorem blks_len (d : D) (k : Nat) : (blks d k).length = k := by simp [blks]
theorem blks_snoc (d : D) (k : Nat) : blks d k ++ [rdB (k : Int) d] = blks d (k + 1) := by simp [blks, List.range_succ]
theorem blks_get (d : D) {k j : Nat} (h : j < k) : (blks d k)[j]? = some (rdB (j : Int) d) := by simp [blks, h]
theorem disk_ok {w : World} {F : Nat → Prop} {p : Nat} {d : D} (h : Disk w F p d) : d.Ok := by
  obtain ⟨gk, s, v, z, h1, h2, h3, r1, r2, r3, rok⟩ := h
  exact rok
/-- bytes that stay, whatever is done besides F -/
theorem stay_seg {F : Nat → Prop} {w : World} {base : Nat} {v : Value} {l : List UInt8} (h : OwnB w base v l) (hF : ∀ k, base ≤ k → k < w.heap.size → ¬ F k) : Stay F w v l := stay_own h hF
theorem new_cell (w : World) (x : Value) (t : TypeId) : (w.alloc (.cells #[x] t)).cell? ⟨w.heap.size, 0, none⟩ = some x := cell_of_row _ _ _ _ _ _ (heap_alloc_new w _)
theorem fresh_blk {w w' : World} {v : Value} {l : List UInt8} {out : Value} {base : Nat} {G : Nat → Prop} {ls : List (List UInt8)} (ho : OwnLL w base G out ls) (hv : v = .slice none 0 0 ∨ ∃ g n c, v = .slice (some ⟨g, 0, none⟩) n c ∧ w.heap.size ≤ g ∧ g < w'.heap.size) (hb : base ≤ w.heap.size) :
    ∀ k, vblk v = some k → l ≠ [] → base ≤ k ∧ out.ownBlock ≠ some k := by
  intro k hk _
  rcases hv with rfl | ⟨g, n, c, rfl, h1, h2⟩
  · cases hk
  · simp only [vblk, Option.some.injEq] at hk
    subst hk
    exact ⟨by omega, fun h => by have := (ho.own_lt _ h).2; omega⟩
theorem make_bytes (n : Nat) (hn : n ≤ 1048576) (W : World) : (Instr.makeSlice 22 (.int .i64 (n : Int)) (.int .i64 (n : Int))).run Try.prog W = .ok (.slice (some ⟨W.heap.size, 0, none⟩) n n) (W.alloc (.cells ((List.replicate n (0 : UInt8)).map u8v).toArray 5)) := by
  obtain ⟨i, hi, hz0, hz1, hz2⟩ := info_parts info_u8Z
  have h := run_make (P := Try.prog) W 22 5 i _ Try.underlying22 hi hz0 .i64 .i64 (n : Int) (n : Int) (by omega) (Int.le_refl _) (by rw [hz2]; omega) (by omega)
  rw [Int.toNat_natCast, hz1] at h
  rw [h]
  have e : madeCells (Value.cells (.int .u8 0)) (n * 1) = ((List.replicate n (0 : UInt8)).map u8v).toArray := by
    rw [Nat.mul_one]
    apply Array.ext'
    unfold madeCells
    rw [Array.toList_map, Array.toList_range, List.map_replicate]
    apply List.ext_getElem?
    intro j
    rw [List.getElem?_map, List.getElem?_replicate]
    by_cases hj : j < n
    · rw [if_pos hj, List.getElem?_range hj]
      show some _ = some _
      congr 1
      show (Value.int IntKind.u8 0).cells[j % 1]! = u8v 0
      rw [Nat.mod_one]; rfl
    · rw [if_neg hj, List.getElem?_eq_none (by simp; omega)]; rfl
  rw [← e]
/-- so many 32s, and 0s -/
def filled (n k : Nat) : List UInt8 := List.replicate k 32 ++ List.replicate (n - k) 0
theorem filled_zero (n : Nat) : filled n 0 = List.replicate n 0 := by simp [filled]
theorem filled_full (n : Nat) : filled n n = List.replicate n 32 := by simp [filled]
theorem filled_len {n k : Nat} (h : k ≤ n) : (filled n k).length = n := by simp [filled]; omega
theorem filled_step {n k : Nat} (h : k < n) : ((filled n k).map u8v).toArray.setIfInBounds k (.int .u8 32) = ((filled n (k + 1)).map u8v).toArray := by
  apply Array.ext_getElem?
  intro j
  rw [Array.getElem?_setIfInBounds, List.getElem?_toArray, List.getElem?_toArray, List.getElem?_map, List.getElem?_map, List.size_toArray, List.length_map, filled_len (by omega)]
  unfold filled
  by_cases h1 : k = j
  · subst h1
    rw [if_pos rfl, if_pos h, List.getElem?_append_left (by simp), List.getElem?_replicate, if_pos (by omega)]; rfl
  · rw [if_neg h1]
    by_cases h2 : j < k
    · rw [List.getElem?_append_left (by simpa using h2), List.getElem?_append_left (by simp; omega), List.getElem?_replicate, List.getElem?_replicate, if_pos h2, if_pos (by omega)]
    · rw [List.getElem?_append_right (by simp; omega), List.getElem?_append_right (by simp; omega), List.getElem?_replicate, List.getElem?_replicate]
      simp only [List.length_replicate]
      by_cases h3 : j < n
      · rw [if_pos (by omega), if_pos (by omega)]
      · rw [if_neg (by omega), if_neg (by omega)]
theorem Bytes.of_row {w : World} {g n : Nat} {b : List UInt8} {E : TypeId} {fr : Nat × Nat} (h : w.heap[g]? = some (.cells (b.map u8v).toArray E fr)) (hn : n = b.length) (hb : b.length ≤ maxLen) : Bytes w (.slice (some ⟨g, 0, none⟩) n n) b :=
  Bytes.row hn (by omega) (by omega) fun j hj => by
    rw [cell_of_row w g _ _ _ _ h, Nat.zero_add]
    simp [hj, u8v]
attribute [local irreducible] wrB wrE mk sync syncE drop crash faults stop beh rdB pad cutAt over lay blks
set_option maxRecDepth 100000 in
set_option maxHeartbeats 8000000 in
theorem diskCrashes_any (n : Int) (vl : Value) (l : List Dop) (vc : Value) (cuts : List UInt8) (w : World) (_ : -9223372036854775808 ≤ n) (_ : n ≤ 9223372036854775807) (hl : Ops w vl l) (hc : Bytes w vc cuts) :
    Calls Try.prog 8 #[.int .i64 n, vl, vc] w fun e w' => e = .returned (.bool true) ∧ Ext w w' := by
  have hl0 := hl
  obtain ⟨al, cl, rfl, -⟩ := hl
  have hc0 := hc
  obtain ⟨ac, cc, rfl, hc⟩ := hc
  clear hc
  go_enter Try.func8, Try.ntmps8
  go_upto_region 3 with (first
    | (go_at_call 9; refine (awake_any _).mono ?_; rintro e wA ⟨rfl, eA⟩)
    | (go_at_call 15; refine (few_any _ l _ (hl0.ext eA)).mono ?_; rintro e w' ⟨rfl, rfl⟩))
  by_cases hf : fewO l = true
  · rw [hf]
    by_cases hn : n ≤ 40
    · have dn : decide ((40 : Int) < n) = false := by rw [decide_eq_false_iff_not]; omega
      by_cases h100 : cuts.length ≤ 100
      · have d100 : decide ((100 : Int) < (cuts.length : Int)) = false := by rw [decide_eq_false_iff_not]; omega
        have hB := behind_any n _ l eA hl0 hf
        go_upto_region 6 with (go_at_call 16; refine hB.mono ?_; rintro e w1 ⟨v1, rfl, p1, rfl, h1⟩)
        have hB := behind_any n _ l (Ext.refl w1) (hl0.ext h1.1) hf
        go_upto_region 7 with (go_at_call 16; refine hB.mono ?_; rintro e w2 ⟨v2, rfl, p2, rfl, h2⟩)
        have e02 := h1.1.trans h2.1
        have hB := behind_any n _ l (Ext.refl w2) (hl0.ext e02) hf
        go_upto_region 8 with (go_at_call 16; refine hB.mono ?_; rintro e w3 ⟨v3, rfl, p3, rfl, h3⟩)
        have e03 := e02.trans h3.1
        have hB := behind_any n _ l (Ext.refl w3) (hl0.ext e03) hf
        go_upto_region 9 with (go_at_call 16; refine hB.mono ?_; rintro e w4 ⟨v4, rfl, p4, rfl, h4⟩)
        have e04 := e03.trans h4.1
        have D1 := h1.seg.ext (h2.1.trans (h3.1.trans h4.1))
        have D2 := h2.seg.ext (h3.1.trans h4.1)
        have D3 := h3.seg.ext h4.1
        have D4 := h4.seg
        have s1 := h1.1.size
        have s2 := h2.1.size
        have s3 := h3.1.size
        have s4 := h4.1.size
        have hok := disk_ok D1
        have hst := beh_len n l
        have hl40 := (few_facts hf).1
        have hBy := bytes_own D1
        clear hB h1 h2 h3 h4 eA e02 e03 hl0 hn dn d100
        generalize beh n l = d at *
        go_upto_region 12 with (go_at_call 20; refine hBy.mono ?_; rintro e w5 ⟨v5, rfl, hv5, e5⟩)
        have hcs := fun F (hF : ∀ k, F k → w.heap.size ≤ k) => stay_old (F := F) hc0 (e04.trans e5) hF
        have hwas := fun F (hF : ∀ k, w4.heap.size ≤ k → k < w5.heap.size → ¬ F k) => stay_own (F := F) hv5 hF
        have s5 := e5.size
        have D1 := D1.ext e5
        have D2 := D2.ext e5
        have D3 := D3.ext e5
        have D4 := D4.ext e5
        have e05 := e04.trans e5
        obtain ⟨a5, c5, rfl, -⟩ := hv5.bytes
        clear hBy hv5 e5 e04 hc0
        have hcsh := Lib.hid hcs
        have hwash := Lib.hid hwas
        clear hcs hwas
        have hm := hok.most
        generalize hz0 : w.heap.size = z0 at *
        have e05h := Lib.hid e05
        have e55 := Ext.refl w5
        have hokh := Lib.hid hok
        go_wp2
        go_loopw [14, 15] (fun out i wr => ∃ k : Nat, k ≤ d.n ∧ i = .int .i64 (k : Int) ∧ OwnLL wr w5.heap.size (fun b => w5.heap.size ≤ b) out (blks d k) ∧ Ext w5 wr) (fun _ i _ => d.n - (intOf i).toNat)
        case atStart => exact ⟨0, Nat.zero_le _, rfl, by rw [show blks d 0 = [] from by unfold blks; rfl]; exact OwnLL.nil _ _ _, e55⟩
        case round =>
          obtain ⟨k, hk, rfl, ho, ek⟩ := hrel
          have hLe := len_any (D1.ext ek)
          by_cases hlt : k < d.n
          · have hki : (k : Int) < (d.n : Int) := by omega
            have hR := read_own (D1.ext ek) (k : Int)
            have hbl := Lib.hid (blks_len d k)
            have hbs := Lib.hid (blks_snoc d k)
            go_upto_block 1 with (go_at_call 22; refine hLe.mono ?_; rintro e w' ⟨rfl, rfl⟩)
            go_wp2_with (first
              | (go_at_call 14; refine hR.mono ?_; rintro e w6 ⟨v6, rfl, hb6, e6, hv6⟩; have hu6 := fresh_blk (l := rdB (k : Int) d) ho hv6 ek.size; have hb6' := hb6; obtain ⟨a6, c6, rfl, -⟩ := hb6'; clear hv6)
              | (at_builtin; refine wpList_appendLL rfl _ _ rfl w5.heap.size (fun b => w5.heap.size ≤ b) _ (blks d k) rfl ((ho.ext e6).ext ((Ext.refl w6).alloc _)) w6.heap.size 1 rfl _ (rdB (k : Int) d) (new_cell _ _ _) rfl (hb6.ext ((Ext.refl w6).alloc _)) hu6 (by rw [hbl.out]; omega) (Nat.le_trans (Nat.le_trans ek.size e6.size) ((Ext.refl w6).alloc _).size) ?_; intro v7 w7 g1 g2))
            go_roundw
            case rel => exact ⟨k + 1, by omega, by go_num, by rw [← hbs.out]; exact g1, ((ek.trans e6).alloc _).grown g2 fun k hk => (ho.own_lt k hk).1⟩
            case measure => simp [intOf]; omega
          · obtain rfl : k = d.n := by omega
            clear hlt hk e55
            have s6 := ek.size
            have D1 := D1.ext ek
            have D2 := D2.ext ek
            have D3 := D3.ext ek
            have D4 := D4.ext ek
            have hSt := staged_any D1
            have hC := crash_any D1 _ cuts (fun w' c => hcsh.out _ (fun k hk => hk.1) w' ((Chg.of_ext ek).trans c))
            go_upto_region 18 with (first
              | (go_at_call 22; refine hLe.mono ?_; rintro e w' ⟨rfl, rfl⟩)
              | (go_at_call 12; refine hSt.mono ?_; rintro e w' ⟨rfl, rfl⟩))
            clear hLe hSt
            go_upto_region 19 with (go_at_call 28; refine hC.mono ?_; rintro e w7 ⟨rfl, c7, D1⟩)
            have s7 := c7.size
            have D2 := D2.chg c7 (fun k h1 h2 => by have := h1.1; have := h2.2; omega)
            have D3 := D3.chg c7 (fun k h1 h2 => by have := h1.1; have := h2.2; omega)
            have D4 := D4.chg c7 (fun k h1 h2 => by have := h1.1; have := h2.2; omega)
            have ho := ho.chg c7 (fun k h1 _ h2 => by have := h2.2; omega) (fun k h1 _ h2 => by have := h2.2; omega)
            have c57 := (Chg.of_ext ek).trans c7
            have hBy := bytes_any D1
            have hSt := staged_any D1
            clear hC
            go_upto_region 20 with (go_at_call 20; refine hBy.mono ?_; rintro e w8 ⟨v8, rfl, hb8, e8⟩)
            have s8 := e8.size
            have hSt := staged_any (D1.ext e8)
            have D2 := D2.ext e8
            have D3 := D3.ext e8
            have D4 := D4.ext e8
            have ho := ho.ext e8
            have c58 := c57.ext e8
            have hW8 := (hwash.out (seg z0 w1.heap.size) (fun k h1 h2 h3 => by have := h3.2; omega)) _ c58
            have hlen := crash_len hokh.out cuts
            have hone := fun h1 => crash_one hokh.out cuts h1
            have hst0 : (crash cuts d).st = [] := by unfold crash; rfl
            rw [hst0] at hSt
            obtain ⟨a8, c8, rfl, hat8⟩ := hb8
            rw [hlen]
            have hlenH := Lib.hid hlen
            clear hlen
            clear hBy D1 c7 e8 hst0
            go_upto_region 22 with (go_at_call 12; refine hSt.mono ?_; rintro e w' ⟨rfl, rfl⟩)
            have e88 := Ext.refl w8
            obtain ⟨a5', c5', e, hatK⟩ := hW8
            simp only [Value.slice.injEq] at e
            obtain ⟨rfl, -, rfl⟩ := e
            obtain ⟨aS, cS, rfl, hS1, hS2, -, hSg⟩ := ho.get
            rw [blks_len] at hS1 ⊢
            unfold maxLen at hS2
            have hSgh := Lib.hid hSg
            have hatKh := Lib.hid hatK
            have hlenh := Lib.hid hok.len
            have hat8h := Lib.hid hat8
            have honeh := Lib.hid hone
            have hl8 := hat8.le
            rw [hlenH.out] at hl8
            have hlm := hat8.capm
            unfold maxLen at hlm
            clear hatK hat8 hone hSg ho
            go_upto_if 96 with fail
            go_cut [18] (fun _ wd => Ext w8 wd)
            case first =>
              by_cases h1 : d.st.length ≤ 1
              · have h1i : (d.st.length : Int) ≤ 1 := by omega
                go_wp2
                go_loopw [18] (fun i wr => ∃ j : Nat, j ≤ d.kept.length ∧ i = .int .i64 (j : Int) ∧ Ext w8 wr) (fun i _ => d.kept.length - (intOf i).toNat)
                case atStart => exact ⟨0, Nat.zero_le _, rfl, e88⟩
                case round =>
                  clear e88
                  obtain ⟨j, hj, rfl, ej⟩ := hrel
                  by_cases hlt : j < d.kept.length
                  · have hji : (j : Int) < (d.kept.length : Int) := by omega
                    obtain ⟨g8, o8, rfl, cN⟩ := (hat8h.out.ext ej).get j (by rw [hlenH.out]; exact hlt)
                    obtain ⟨g5, o5, rfl, cK⟩ := (hatKh.out.ext ej).get j hlt
                    have hq : j / 32 < d.n := by have := hlenh.out; omega
                    have w1' : IntKind.i64.wrap ((j : Int) / 32) = (j : Int) / 32 := by rw [IntKind.wrap_i64]; omega
                    have hor := honeh.out h1 j hlt
                    by_cases heq : (crash cuts d).kept.getD j 0 = d.kept.getD j 0
                    · rw [heq] at cN
                      generalize d.kept.getD j 0 = x at cN cK
                      have e21 := bne_self_eq_false (x.toNat : Int)
                      clear hor heq
                      have ejd := Lib.hid ej.drew
                      clear ej
                      go_wp2
                      go_region
                      go_wp2
                      go_roundw
                      case rel => exact ⟨j + 1, by omega, by go_num, ejd.out⟩
                      case measure => simp [intOf]; omega
                    · have hy := hor.resolve_left heq
                      obtain ⟨gS, x, rfl, hgS, cS1, hBx, -⟩ := hSgh.out (j / 32) _ (blks_get d hq)
                      have cS2 := ej.cell cS1
                      obtain ⟨ax, cx, rfl, hatx⟩ := hBx.ext ej
                      have hrl := rdB_len hokh.out hq
                      obtain ⟨gx, ox, rfl, cX⟩ := hatx.get (j % 32) (by rw [hrl]; omega)
                      rw [← hy] at cX
                      rw [hrl] at cS2
                      have e21 : (((crash cuts d).kept.getD j 0).toNat : Int) != ((d.kept.getD j 0).toNat : Int) := by
                        rw [bne_iff_ne]
                        intro h
                        exact heq (UInt8.toNat_inj.1 (by omega))
                      have e22 := bne_self_eq_false (((crash cuts d).kept.getD j 0).toNat : Int)
                      have hcx : (32 : Int) ≤ (cx : Int) := by have := hatx.le; omega
                      have i1 : (0 : Int) ≤ (j : Int) / 32 := by omega
                      have i2 : (j : Int) / 32 < (d.n : Int) := by omega
                      have i3 : ((j : Int) / 32).toNat = j / 32 := by omega
                      have i4 : (0 : Int) ≤ (j : Int) % 32 := by omega
                      have i5 : (j : Int) % 32 < 32 := by omega
                      have i6 : ((j : Int) % 32).toNat = j % 32 := by omega
                      have i7 : IntKind.i64.wrap ((j : Int) % 32) = (j : Int) % 32 := by rw [IntKind.wrap_i64]; omega
                      have ejd := Lib.hid ej.drew
                      clear hor heq hy hBx hatx hrl cS1 ej hgS
                      generalize (crash cuts d).kept.getD j 0 = y at *
                      generalize d.kept.getD j 0 = z at *
                      go_wp2
                      go_region
                      go_wp2
                      go_roundw
                      case rel => exact ⟨j + 1, by omega, by go_num, ejd.out⟩
                      case measure => simp [intOf]; omega
                  · go_wp2
                    go_meet
                    case rel => exact ej
              · have h1i : ¬ (d.st.length : Int) ≤ 1 := by omega
                go_wp2
                go_meet
                case rel => exact e88
            case rest =>
              have e8c := hcut
              clear hcut e88
              have D2 := D2.ext e8c
              have D3 := D3.ext e8c
              have D4 := D4.ext e8c
              have s9 := e8c.size
              have c5c := c58.ext e8c
              have hW := hwash.out
              clear hSgh hatKh hat8h honeh hlenh c57 c58 e8c hlm hl8 hS1 hS2
              clear hwash
              have hwash := Lib.hid hW
              clear hW
              obtain ⟨N, hN⟩ : ∃ N, N = d.st.length := ⟨_, rfl⟩
              rw [← hN]
              have hN40 : N ≤ 40 := by omega
              have hmk := make_bytes N (by omega)
              have hNh := Lib.hid hN
              clear hN
              obtain ⟨g9, hg9⟩ : ∃ g, g = wc.heap.size := ⟨_, rfl⟩
              have hrow0 := heap_alloc_new wc (.cells ((List.replicate N (0 : UInt8)).map u8v).toArray 5)
              rw [← filled_zero N, ← hg9] at hrow0
              have ec0 := (Ext.refl wc).alloc (.cells ((List.replicate N (0 : UInt8)).map u8v).toArray 5)
              rw [← filled_zero N] at ec0 hmk
              go_wp2
              rw [← hg9]
              have hg9h := Lib.hid hg9
              clear hg9 hmk
              go_loopw [20] (fun i wr => ∃ k : Nat, k ≤ N ∧ i = .int .i64 (k : Int) ∧ wr.heap[g9]? = some (.cells ((filled N k).map u8v).toArray 5 (0, 0)) ∧ Ext wc wr) (fun i _ => N - (intOf i).toNat)
              case atStart => exact ⟨0, Nat.zero_le _, rfl, hrow0, ec0⟩
              case round =>
                clear hrow0 ec0
                obtain ⟨k, hk, rfl, hrow, ek⟩ := hrel
                by_cases hlt : k < N
                · have hki : (k : Int) < (N : Int) := by omega
                  have hfl := Lib.hid (filled_len (n := N) (k := k) (by omega))
                  have c1 : wr.cell? ⟨g9, k, none⟩ = some (u8v ((filled N k).getD k 0)) := by
                    rw [cell_of_row _ _ _ _ _ _ hrow, List.getElem?_toArray, List.getElem?_map, List.getD_eq_getElem?_getD, List.getElem?_eq_getElem (by rw [hfl.out]; exact hlt)]; rfl
                  have f1 : wr.frozen? ⟨g9, k, none⟩ = false := by simp [World.frozen?, hrow]
                  have hrow2 := setCell_row wr g9 k _ _ _ (.int .u8 32) hrow
                  rw [filled_step hlt] at hrow2
                  have hrowh := Lib.hid hrow2
                  clear hrow hrow2
                  go_wp2
                  go_roundw
                  case rel => exact ⟨k + 1, by omega, by go_num, hrowh.out, ek.setCell (by show wc.heap.size ≤ g9; rw [hg9h.out]; exact Nat.le_refl _) _⟩
                  case measure => simp [intOf]; omega
                · obtain rfl : k = N := by omega
                  rw [filled_full] at hrow
                  have hall := Bytes.of_row (n := k) hrow (by simp) (by simp [maxLen]; omega)
                  have hsz9 := (Array.getElem?_eq_some_iff.1 hrow).1
                  have D2 := D2.ext ek
                  have D3 := D3.ext ek
                  have D4 := D4.ext ek
                  have s10 := ek.size
                  have c5r := c5c.ext ek
                  have hg9' := hg9h.out
                  have hC := crash_any D2 _ _ (fun w' c => Bytes.chg hall c (fun h => by have := h.2; omega))
                  have hka := Lib.hid (crash_all d _ (show List.replicate k 32 = List.replicate d.st.length 32 by rw [hNh.out]))
                  clear hrow hall c5c hg9' hlt hk ek D1 ho hSt hsz9
                  try clear e05
                  go_upto_region 34 with (go_at_call 28; refine hC.mono ?_; rintro e w10 ⟨rfl, c10, D2⟩)
                  have s11 := c10.size
                  have D3 := D3.chg c10 (fun k h1 h2 => by have := h1.1; have := h2.2; omega)
                  have D4 := D4.chg c10 (fun k h1 h2 => by have := h1.1; have := h2.2; omega)
                  have x10 : Ext w w10 := (e05h.out.chg c5r fun k h => by have := h.1; omega).chg c10 fun k h => by have := h.1; omega
                  have hF := faults_any D3 (.slice none 0 0) [] (by decide) (Sl.nil _)
                  clear hC
                  go_upto_region 35 with (go_at_call 21; refine hF.mono ?_; rintro e w11 ⟨rfl, c11, D3⟩)
                  have s12 := c11.size
                  have D2 := D2.chg c11 (fun k h1 h2 => by have := h1.2; have := h2.1; omega)
                  have D4 := D4.chg c11 (fun k h1 h2 => by have := h1.1; have := h2.2; omega)
                  have x11 := x10.chg c11 fun k h => by have := h.1; omega
                  have hO := on_any D3
                  have hS := sync_any D3
                  clear hF
                  go_upto_region 37 with (first
                    | (go_at_call 17; refine hO.mono ?_; rintro e w' ⟨rfl, rfl⟩)
                    | (go_at_call 13; refine hS.mono ?_; rintro e w12 ⟨rfl, c12, D3⟩))
                  have s13 := c12.size
                  have D2 := D2.chg c12 (fun k h1 h2 => h2.elim (fun h2 => by have := h1.2; have := h2.1; omega) (fun h2 => by have := h1.2; omega))
                  have D4 := D4.chg c12 (fun k h1 h2 => h2.elim (fun h2 => by have := h1.1; have := h2.2; omega) (fun h2 => by have := h1.2; omega))
                  have x12 := x11.chg c12 fun k h => h.elim (fun h => by have := h.1; omega) (fun h => by omega)
                  have hC := crash_any D4 (.slice none 0 0) [] (fun w' _ => Bytes.nil w')
                  have y12 := ((((c5r.mono (q := out5 w4.heap.size w5.heap.size) (fun k h1 h2 => by have := h1.2; omega)).trans (c10.mono (fun k h1 h2 => by have := h1.2; omega))).trans (c11.mono (fun k h1 h2 => by have := h1.2; omega))).trans (c12.mono (fun k h1 h2 => h1.elim (fun h1 => by have := h1.2; omega) (fun h1 => by omega))))
                  clear hO hS c10 c11 c12 x10 x11 c5r
                  go_upto_region 38 with (go_at_call 28; refine hC.mono ?_; rintro e w13 ⟨rfl, c13, D4⟩)
                  have s14 := c13.size
                  have D2 := D2.chg c13 (fun k h1 h2 => by have := h1.2; have := h2.1; omega)
                  have D3 := D3.chg c13 (fun k h1 h2 => h1.elim (fun h1 => by have := h1.2; have := h2.1; omega) (fun h1 => by have := h2.2; omega))
                  have x13 := x12.chg c13 fun k h => by have := h.1; omega
                  have y13 := y12.trans (c13.mono (fun k h1 h2 => by have := h1.2; omega))
                  have hB13 := hwash.out _ (fun k h1 h2 h3 => h3 ⟨h1, h2⟩) _ y13
                  have hk4 := crash_none d
                  have hB2 := bytes_any D2
                  rw [hka.out] at hB2
                  have hB4 := fun W (e : Ext w13 W) => bytes_any (D4.ext e)
                  rw [hk4] at hB4
                  have hSame : ∀ W u, Bytes W u d.kept → Bytes W (.slice a5 d.kept.length c5) d.kept → Calls Try.prog 23 #[u, .slice a5 d.kept.length c5] W fun e w' => e = .returned (.bool true) ∧ W = w' := fun W u g1 g2 => by
                    have := same_any u (.slice a5 d.kept.length c5) d.kept d.kept W g1 g2
                    rw [seq_self] at this
                    exact this
                  clear hk4 y12 y13 c13 x12 hC hcsh hwash e05h
                  by_cases hoff : d.off = true
                  · obtain ⟨r1, r2, r3⟩ := sync_off hoff
                    have hSt := staged_any D3
                    rw [r2, ← hNh.out] at hSt
                    have hB3 := bytes_any D3
                    rw [r3] at hB3
                    have ho2 : (faults [] d).off = true := (faults_off d).trans hoff
                    rw [r1, ho2]
                    clear r1 r2 r3 ho2 hoff D2 D3 hB2 hB
                    go_wp2_with (first
                      | (go_at_call 12; refine hSt.mono ?_; rintro e w' ⟨rfl, rfl⟩; clear hSt)
                      | (go_at_call 20; refine hB3.mono ?_; rintro e w14 ⟨v14, rfl, b14, e14⟩; have hS3 := hSame _ _ b14 (hB13.ext e14); clear hB3)
                      | (go_at_call 23; refine hS3.mono ?_; rintro e w' ⟨rfl, rfl⟩; clear hS3; have hB5 := hB4 _ e14)
                      | (go_at_call 20; refine hB5.mono ?_; rintro e w15 ⟨v15, rfl, b15, e15⟩; have hS4 := hSame _ _ b15 (hB13.ext (e14.trans e15)); clear hB5)
                      | (go_at_call 23; refine hS4.mono ?_; rintro e w' ⟨rfl, rfl⟩; clear hS4))
                    go_ret
                    exact ⟨rfl, x13.trans (e14.trans e15)⟩
                  · have hoff' : d.off = false := by simpa using hoff
                    obtain ⟨r1, r3⟩ := sync_on hoff'
                    have hB3 := fun W (e : Ext w13 W) => bytes_any (D3.ext e)
                    rw [r3] at hB3
                    have ho2 : (faults [] d).off = false := (faults_off d).trans hoff'
                    rw [r1, ho2]
                    clear r1 r3 ho2 hoff hoff' D2 D3 hB
                    have q0 := seq_self (lay d.kept d.st (fun _ => 32) d.st.length)
                    generalize lay d.kept d.st (fun _ => 32) d.st.length = L at *
                    go_wp2_with (first
                      | (go_at_call 20; refine hB2.mono ?_; rintro e w14 ⟨v14, rfl, b14, e14⟩; have hB5 := hB3 _ e14; clear hB2)
                      | (go_at_call 20; refine hB5.mono ?_; rintro e w15 ⟨v15, rfl, b15, e15⟩; have hS3 := same_any _ _ _ _ _ (b14.ext e15) b15; rw [q0] at hS3; clear hB5 q0)
                      | (go_at_call 23; refine hS3.mono ?_; rintro e w' ⟨rfl, rfl⟩; clear hS3; have hB6 := hB4 _ (e14.trans e15))
                      | (go_at_call 20; refine hB6.mono ?_; rintro e w16 ⟨v16, rfl, b16, e16⟩; have hS4 := hSame _ _ b16 (hB13.ext ((e14.trans e15).trans e16)); clear hB6)
                      | (go_at_call 23; refine hS4.mono ?_; rintro e w' ⟨rfl, rfl⟩; clear hS4))
                    go_ret
                    exact ⟨rfl, x13.trans ((e14.trans e15).trans e16)⟩
      · have d100 : decide ((100 : Int) < (cuts.length : Int)) = true := by rw [decide_eq_true_iff]; omega
        go_wp2
        go_ret
        exact ⟨rfl, eA⟩
    · have dn : decide ((40 : Int) < n) = true := by rw [decide_eq_true_iff]; omega
      go_wp2
      go_ret
      exact ⟨rfl, eA⟩
  · have hf' : fewO l = false := by simpa using hf
    rw [hf']
    go_wp2
    go_ret
    exact ⟨rfl, eA⟩
end Go.Proofs.Ytehgdoceaeammaa
