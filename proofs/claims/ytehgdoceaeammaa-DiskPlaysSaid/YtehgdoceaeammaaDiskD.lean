/- The program's disk: New, Bytes, Crash, Write, Open. -/
import Derived.Test.YtehgdoceaeammaaDiskC
namespace Go.Proofs.Ytehgdoceaeammaa
open Go.RowKit Dk

theorem info_blockZ : (Try.prog.info? 63).map (fun i => (i.zero, i.size, i.bytes)) = some (some (.agg (List.replicate 32 (Value.int .u8 0)).toArray), 32, 32) := by kernel_rfl
def zc (m : Nat) : Array Value := madeCells (Value.cells (.agg (List.replicate 32 (Value.int .u8 0)).toArray)) (m * 32)
theorem zc_list (m : Nat) : (zc m).toList = (List.replicate (32 * m) (0 : UInt8)).map u8v := by
  unfold zc madeCells
  rw [Array.toList_map, Array.toList_range, List.map_replicate]
  apply List.ext_getElem?
  intro j
  rw [List.getElem?_map, List.getElem?_replicate]
  by_cases hj : j < 32 * m
  · rw [if_pos hj, List.getElem?_range (by omega)]
    have h32 : j % 32 < 32 := Nat.mod_lt _ (by decide)
    have hz : ∀ q, q < 32 → (List.replicate 32 (Value.int .u8 0)).toArray[q]! = Value.int .u8 0 := fun q hq => by
      rw [getElem!_pos _ _ (by rw [List.size_toArray, List.length_replicate]; exact hq)]
      simp only [List.getElem_toArray, List.getElem_replicate]
    exact congrArg some (hz _ h32)
  · rw [if_neg hj, List.getElem?_eq_none (by simp; omega)]; rfl
theorem make_blocks (m : Nat) (hm : m ≤ 512) (W : World) : (Instr.makeSlice 57 (.int .i64 (m : Int)) (.int .i64 (m : Int))).run Try.prog W = .ok (.slice (some ⟨W.heap.size, 0, none⟩) m m) (W.alloc (.cells (zc m) 63)) := by
  obtain ⟨i, hi, hz0, hz1, hz2⟩ := info_parts info_blockZ
  have h := run_make (P := Try.prog) W 57 63 i _ Try.underlying57 hi hz0 .i64 .i64 (m : Int) (m : Int) (by omega) (Int.le_refl _) (by rw [hz2]; omega) (by omega)
  rw [Int.toNat_natCast, hz1] at h
  exact h
theorem new_disk (w : World) (m : Nat) (hm : m ≤ 512) : Disk ((w.alloc (.cells (zc m) 63)).alloc (.cells (hdr w.heap.size m (.slice none 0 0) (.slice none 0 0) false (-1)) 60)) (fun k => w.heap.size ≤ k ∧ k < ((w.alloc (.cells (zc m) 63)).alloc (.cells (hdr w.heap.size m (.slice none 0 0) (.slice none 0 0) false (-1)) 60)).heap.size) (w.heap.size + 1) (mk m) := by
  have hs : ((w.alloc (.cells (zc m) 63)).alloc (.cells (hdr w.heap.size m (.slice none 0 0) (.slice none 0 0) false (-1)) 60)).heap.size = w.heap.size + 2 := by
    show ((w.heap.push _).push _).size = _
    simp
  rw [hs]
  refine ⟨w.heap.size, .slice none 0 0, .slice none 0 0, -1, ?_, by omega, ⟨⟨zc m, heap_alloc2_old w _ _, zc_list m⟩, by omega, OwnF.nil _ _ _ _, .inl ⟨rfl, rfl⟩⟩, rfl, by omega, by omega, mk_ok hm⟩
  rw [mk_n]
  exact heap_alloc2_new w _ _
set_option maxHeartbeats 1000000 in
theorem new_any (n : Int) (w : World) :
    Calls Try.prog 10 #[.int .i64 n] w (Ret fun v w' => ∃ p, v = .pointer (some ⟨p, 0, none⟩) ∧ Disk w' (fun k => w.heap.size ≤ k ∧ k < w'.heap.size) p (mk (clamp n)) ∧ Ext w w') := by
  have e0 := Ext.refl w
  have hc := clamp_le n
  have hcase : (512 < n ∧ clamp n = 512) ∨ (∃ m : Nat, n = m ∧ m ≤ 512 ∧ 0 < m ∧ clamp n = m) ∨ (n ≤ 0 ∧ clamp n = 0) := by
    unfold clamp
    by_cases h1 : 512 < n
    · left; omega
    · by_cases h2 : n ≤ 0
      · right; right; omega
      · right; left; exact ⟨n.toNat, by omega, by omega, by omega, by omega⟩
  rcases hcase with ⟨h1, h2⟩ | ⟨m, rfl, h1, h0, h2⟩ | ⟨h1, h2⟩
  · rw [h2]
    have hmk : ∀ W, (Instr.makeSlice 57 (.int .i64 512) (.int .i64 512)).run Try.prog W = .ok (.slice (some ⟨W.heap.size, 0, none⟩) 512 512) (W.alloc (.cells (zc 512) 63)) := make_blocks 512 (Nat.le_refl _)
    clear h2 hc
    go_enter Try.func10, Try.ntmps10
    go_wp2
    go_ret
    exact Ret.mk ⟨_, rfl, new_disk w 512 (Nat.le_refl _), (e0.alloc _).alloc _⟩
  · rw [h2]
    have hmk : ∀ W, (Instr.makeSlice 57 (.int .i64 (m : Int)) (.int .i64 (m : Int))).run Try.prog W = .ok (.slice (some ⟨W.heap.size, 0, none⟩) m m) (W.alloc (.cells (zc m) 63)) := make_blocks m h1
    have hmi : (m : Int) ≤ 512 := by omega
    have hm0 : (0 : Int) < (m : Int) := by omega
    clear h2 hc
    go_enter Try.func10, Try.ntmps10
    go_wp2
    go_ret
    exact Ret.mk ⟨_, rfl, new_disk w m h1, (e0.alloc _).alloc _⟩
  · rw [h2]
    have hmk : ∀ W, (Instr.makeSlice 57 (.int .i64 0) (.int .i64 0)).run Try.prog W = .ok (.slice (some ⟨W.heap.size, 0, none⟩) 0 0) (W.alloc (.cells (zc 0) 63)) := make_blocks 0 (Nat.zero_le _)
    clear h2 hc
    go_enter Try.func10, Try.ntmps10
    go_wp2
    go_ret
    exact Ret.mk ⟨_, rfl, new_disk w 0 (Nat.zero_le _), (e0.alloc _).alloc _⟩
set_option maxRecDepth 20000 in
set_option maxHeartbeats 1000000 in
theorem bytes_own {w : World} {F : Nat → Prop} {p : Nat} {d : D} (h : Disk w F p d) :
    Calls Try.prog 20 #[.pointer (some ⟨p, 0, none⟩)] w (Ret fun v w' => OwnB w' w.heap.size v d.kept ∧ Ext w w') := by
  obtain ⟨gk, s, v, z, h1, h2, h3, r1, r2, r3, rok⟩ := h
  obtain ⟨c0, c1, c2, c3, c4, ff⟩ := hdr_cells h1
  have e0 := Ext.refl w
  obtain ⟨cur, hk, hcur⟩ := h3.kept
  have hlen := Lib.hid rok.len
  have hmost := rok.most
  have hkh := Lib.hid hk
  have hcurh := Lib.hid hcur
  clear h1 h3 hk hcur rok
  go_enter Try.func20, Try.ntmps20
  go_wp2
  go_loopw [3, 11] (fun out i wr => ∃ k : Nat, k ≤ d.n ∧ i = .int .i64 (k : Int) ∧ OwnB wr w.heap.size out (d.kept.take (32 * k)) ∧ Ext w wr) (fun _ i _ => d.n - (intOf i).toNat)
  case atStart => exact ⟨0, Nat.zero_le _, rfl, World.ownsRow_nil _ _ _ _, e0⟩
  case round =>
    obtain ⟨k, hk, rfl, ho, ek⟩ := hrel
    by_cases hlt : k < d.n
    · have hrg : wr.rangeAt gk (k * 32) (bc (blk d.kept k)) := fun j v hv => ek.cell (kept_blk hkh.out hcurh.out k j v hv)
      have hbl := blk_length hlen.out hlt
      have hbs : (bc (blk d.kept k)).toArray.size = 32 := by rw [List.size_toArray, bc_length, hbl]
      have hnew : (wr.alloc (.cells (bc (blk d.kept k)).toArray 63)).heap[wr.heap.size]? = some (.cells (bc (blk d.kept k)).toArray 63 (0, 0)) := heap_alloc_new _ _
      have hB := Lib.hid (Bytes.blk hnew hbl)
      have hnx : RowKit.Hid (d.kept.take (32 * (k + 1)) = d.kept.take (32 * k) ++ blk d.kept k) := Lib.hid (by
        unfold blk; rw [Nat.mul_add, List.take_add])
      have hls : (d.kept.take (32 * k)).length ≤ 16384 := by rw [List.length_take, hlen.out]; omega
      have hki : (k : Int) < (d.n : Int) := by omega
      clear hnew
      go_wp2_with (first
        | (refine wpList_load_mid rfl 63 _ rfl gk (k * 32) rfl (bc (blk d.kept k)) _ hrg Try.underlying63 rfl (by rw [bc_length, hbl]; exact info_block) ?_)
        | (refine wpList_store_new wr rfl 63 _ _ rfl (bc (blk d.kept k)).toArray _ rfl rfl rfl 32 info_block hbs rfl (bc_one _) ?_)
        | (at_builtin; refine wpList_appendB rfl _ _ rfl w.heap.size _ (d.kept.take (32 * k)) rfl (ho.alloc _) _ (blk d.kept k) rfl hB.out (by omega) ((ek.alloc _).size) ?_; intro v' w' g1 g2))
      go_roundw
      case rel => first | exact ⟨k + 1, by omega, by go_num, by rw [hnx.out]; exact g1, Ext.own (ek.alloc _) (ho.alloc _) g2⟩ | ((repeat apply Exists.intro); exact ⟨⟨k + 1, by omega, by go_num, by rw [hnx.out]; exact g1, Ext.own (ek.alloc _) (ho.alloc _) g2⟩, rfl⟩)
      case measure => simp [intOf]; omega
    · obtain rfl : k = d.n := by omega
      have hfull : RowKit.Hid (d.kept.take (32 * d.n) = d.kept) := Lib.hid (List.take_of_length_le (by rw [hlen.out]; exact Nat.le_refl _))
      rw [hfull.out] at ho
      go_wp2
      go_ret
      exact Ret.mk ⟨ho, ek⟩
theorem bytes_any {w : World} {F : Nat → Prop} {p : Nat} {d : D} (h : Disk w F p d) :
    Calls Try.prog 20 #[.pointer (some ⟨p, 0, none⟩)] w (Ret fun v w' => Bytes w' v d.kept ∧ Ext w w') :=
  (bytes_own h).mono fun _ _ ⟨v, h1, h2, h3⟩ => ⟨v, h1, h2.bytes, h3⟩
end Go.Proofs.Ytehgdoceaeammaa
